/- gridmove.destabilize. -/
/- gridmove.stabilize. -/
/- gridmove.columns: a move of columns. -/
/- Plain facts: rows stay in range under the moves of columns. -/
/- gridmove.Apply, but for moves of rows. -/
/- append onto a slice of integers that the call itself owns: laws in the words of this seat. -/
/- A queue of integers: a slice of the call's own that is cut at its head and appended to. -/
/- Sums of integers (plain). -/
import Derived.Test.YteliflcbegcdlaaGreatDoorProg
import Derived.Test.YteliflcbegcdlaaGreatDoorZAps
import Derived.KernelRfl
import Derived.Outline
import Derived.Deep.RegionHeld3
import Derived.Deep.DeepCutAuto
import Derived.Maps.AppendAt
import Derived.Deep.AppendLies
import Derived.RegionTactic
import Derived.OwnWalk
import Derived.Deep.RegionLaw
import Derived.Deep.AppendSrc
namespace Go.Proofs.YteliflcbegcdlaaGreatDoor
set_option linter.unusedVariables false
open Go.RowKit
/-- no other column than a has its marks in the two rows the other way round -/
def desAll (a : Nat) (x o : Int) : Nat → List Int → List Int → Bool
  | i, p :: ps, q :: qs => !(decide (i ≠ a) && q == x && p == o) && desAll a x o (i + 1) ps qs
  | _, _, _ => true
def desOk (X O : List Int) (a : Nat) (x o : Int) : Bool := decide (3 ≤ X.length) && decide (maxG x o = minG x o + 1) && desAll a x o 0 X O
theorem desAll_drop (a : Nat) (x o : Int) (X O : List Int) {k : Nat} (h : k < X.length) (h' : k < O.length) :
    desAll a x o k (X.drop k) (O.drop k) = (!(decide (k ≠ a) && O[k] == x && X[k] == o) && desAll a x o (k + 1) (X.drop (k + 1)) (O.drop (k + 1))) := by
  rw [List.drop_eq_getElem_cons h, List.drop_eq_getElem_cons h', desAll]
def DesPost (B : Nat) (w : World) (X O : List Int) (a : Nat) (x o : Int) (e : Ending) (w' : World) : Prop :=
  Below B w w' ∧
  if desOk X O a x o = true then ∃ v, e = .returned (.tuple #[v, .int .i64 0]) ∧ NewGrid B w' v (reloc (mvDel (minG x o) a) true (X.length - 1) X) (reloc (mvDel (minG x o) a) false (X.length - 1) O)
  else e = .returned (.tuple #[.agg #[.slice none 0 0, .slice none 0 0], .int .i64 6])
def DesMid (B : Nat) (w : World) (g : Nat) (vx vo : Value) (a low : Int) : Prop :=
  Arr w B 24 [vx, vo] ∧ Arr w (B + 1) 3 [.int .i64 a] ∧ Arr w (B + 2) 24 [.slice none 0 0, .slice none 0 0] ∧ Arr w g 3 [.int .i64 low] ∧ B + 3 ≤ g
theorem DesMid.below {B : Nat} {w w' : World} {g : Nat} {vx vo : Value} {a low : Int} (h : DesMid B w g vx vo a low) (hb : Below w.heap.size w w') : DesMid B w' g vx vo a low :=
  ⟨h.1.below hb h.1.lt, h.2.1.below hb h.2.1.lt, h.2.2.1.below hb h.2.2.1.lt, h.2.2.2.1.below hb h.2.2.2.1.lt, h.2.2.2.2⟩
theorem mvDel_lt (low r : Int) (b : Bool) (a k : Nat) {n : Nat} (hk : k < n) (ha : a < n) : (mvDel low a k r b).1 < ((n - 1 : Nat) : Int) := by
  simp only [mvDel]
  repeat' split
  all_goals omega
set_option maxHeartbeats 1000000 in
theorem destabilize_any (vx vo : Value) (X O : List Int) (a : Nat) (w : World) (hX : Ints w vx X) (hO : Ints w vo O) (hl : X.length ≤ 1000) (hlen : X.length = O.length) (ha : a < X.length) (hb : a < O.length)
    (rX : Rows X.length X) (rO : Rows X.length O) :
    Calls Tryz.prog 94 #[.agg #[vx, vo], .int .i64 a] w (DesPost w.heap.size w X O a X[a] O[a]) := by
  have HL := Lib.hid hlen
  clear hlen
  have hX0 := hX
  have hO0 := hO
  obtain ⟨A, c, rfl, hc, hh⟩ := hX
  obtain ⟨A', c', rfl, hc', hh'⟩ := hO
  clear hh hh'
  obtain ⟨b1, o1, rfl, hlt, c1⟩ := hX0.at_ ha
  obtain ⟨b2, o2, rfl, hlt', c2⟩ := hO0.at_ hb
  have hx := rX.get ha
  have ho := rO.get hb
  generalize X[a] = x at *
  generalize O[a] = o at *
  go_enter Tryz.func94, Tryz.ntmps94
  go_upto_region 2 with fail
  have hW : Arr (((w.alloc (.cells #[.slice (some ⟨b1, o1, none⟩) X.length c, .slice (some ⟨b2, o2, none⟩) O.length c'] 24)).alloc (.cells #[.int .i64 (a : Int)] 3)).alloc (.cells #[.slice none 0 0, .slice none 0 0] 24)) w.heap.size 24 [.slice (some ⟨b1, o1, none⟩) X.length c, .slice (some ⟨b2, o2, none⟩) O.length c'] ∧
      Arr (((w.alloc (.cells #[.slice (some ⟨b1, o1, none⟩) X.length c, .slice (some ⟨b2, o2, none⟩) O.length c'] 24)).alloc (.cells #[.int .i64 (a : Int)] 3)).alloc (.cells #[.slice none 0 0, .slice none 0 0] 24)) (w.heap.size + 1) 3 [.int .i64 (a : Int)] ∧ Arr (((w.alloc (.cells #[.slice (some ⟨b1, o1, none⟩) X.length c, .slice (some ⟨b2, o2, none⟩) O.length c'] 24)).alloc (.cells #[.int .i64 (a : Int)] 3)).alloc (.cells #[.slice none 0 0, .slice none 0 0] 24)) (w.heap.size + 2) 24 [.slice none 0 0, .slice none 0 0] ∧ Below w.heap.size w (((w.alloc (.cells #[.slice (some ⟨b1, o1, none⟩) X.length c, .slice (some ⟨b2, o2, none⟩) O.length c'] 24)).alloc (.cells #[.int .i64 (a : Int)] 3)).alloc (.cells #[.slice none 0 0, .slice none 0 0] 24)) ∧ (((w.alloc (.cells #[.slice (some ⟨b1, o1, none⟩) X.length c, .slice (some ⟨b2, o2, none⟩) O.length c'] 24)).alloc (.cells #[.int .i64 (a : Int)] 3)).alloc (.cells #[.slice none 0 0, .slice none 0 0] 24)).heap.size = w.heap.size + 3 :=
    ⟨((Arr.new _ _ [_, _]).alloc _).alloc _, (Arr.newAt (w.alloc _) _ [_] _ (by simp)).alloc _, Arr.newAt ((w.alloc _).alloc _) _ [_, _] _ (by simp), (((Below.refl _ _).alloc (Nat.le_refl _) _).alloc (by simp) _).alloc (by simp <;> omega) _, by simp⟩
  generalize (((w.alloc (.cells #[.slice (some ⟨b1, o1, none⟩) X.length c, .slice (some ⟨b2, o2, none⟩) O.length c'] 24)).alloc (.cells #[.int .i64 (a : Int)] 3)).alloc (.cells #[.slice none 0 0, .slice none 0 0] 24)) = w3 at hW ⊢
  obtain ⟨g0, g1, g2, hb3, hs3⟩ := hW
  have c1' := (hb3.cell (p := ⟨b1, o1 + a, none⟩) hlt).trans c1
  have c2' := (hb3.cell (p := ⟨b2, o2 + a, none⟩) hlt').trans c2
  have d0 := g0.cell 0
  have d1 := g0.cell 1
  have d2 := g1.cell 0
  have l1 : b1 < w3.heap.size := by omega
  have l2 : b2 < w3.heap.size := by omega
  have l3 : w.heap.size < w3.heap.size := by omega
  have l4 : w.heap.size + 1 < w3.heap.size := by omega
  have HS := Lib.hid hs3
  clear hs3
  go_cut [7, 8] (fun s7 s8 wx => ∃ g : Nat, s7 = .pointer (some ⟨g, 0, none⟩) ∧ s8 = .int .i64 (maxG x o) ∧ DesMid w.heap.size wx g (.slice (some ⟨b1, o1, none⟩) X.length c) (.slice (some ⟨b2, o2, none⟩) O.length c') a (minG x o) ∧ Below w.heap.size w wx)
  case first =>
    have n1 : w3.heap.size ≠ w.heap.size := by omega
    have n2 : w3.heap.size ≠ w.heap.size + 1 := by omega
    have n3 : w3.heap.size ≠ b1 := by omega
    have n4 : w3.heap.size ≠ b2 := by omega
    go_region_held3 (fun w' => w'.cell? ⟨w.heap.size, 0, none⟩ = some (.slice (some ⟨b1, o1, none⟩) X.length c) ∧ w'.cell? ⟨w.heap.size, 1, none⟩ = some (.slice (some ⟨b2, o2, none⟩) O.length c') ∧ w'.cell? ⟨w.heap.size + 1, 0, none⟩ = some (.int .i64 (a : Int)) ∧ w'.cell? ⟨b1, o1 + a, none⟩ = some (.int .i64 x) ∧ w'.cell? ⟨b2, o2 + a, none⟩ = some (.int .i64 o)) (go_keep) (first | fail)
    all_goals
      rw [show (if o < x then o else x) = minG x o from rfl, show (if x < o then o else x) = maxG x o from rfl]
      go_wp2_with fail
      go_meet
      exact ⟨_, rfl, rfl, ⟨g0.alloc _, g1.alloc _, g2.alloc _, (Arr.new w3 _ [_]).drew, by have := HS.out; omega⟩, (hb3.alloc (by omega) _).drew⟩
  case rest =>
    clear c1' c2' d0 d1 d2 l1 l2 l3 l4 g0 g1 g2
    obtain ⟨g, rfl, rfl, hm, hbx⟩ := hcut
    have hd0 := hm.2.2.2.1.cell 0
    have hz0 := hm.2.2.1.cell 0
    have hz1 := hm.2.2.1.cell 1
    have hz2 := hm.2.2.1.frozen 0
    have hz3 := hm.2.2.1.frozen 1
    have hzr := Lib.hid ((hm.2.2.1.set 0 (.slice none 0 0)).set 1 (.slice none 0 0))
    have hmm : minG x o ≤ 1000 ∧ maxG x o ≤ 1000 ∧ 0 ≤ minG x o ∧ 0 ≤ maxG x o := by unfold minG maxG; repeat' split <;> omega
    obtain ⟨k1, k2, k3, k4⟩ := hmm
    by_cases t1 : X.length < 3
    · have hfin := Lib.hid (show ¬ desOk X O a x o = true by simp [desOk]; omega)
      go_wp2_with fail
      refine bodyPost_ret (v := .tuple #[.agg #[.slice none 0 0, .slice none 0 0], .int .i64 6]) (results_ct Tryz.results94 _ _ (w.heap.size + 2) 24 _ _ rfl hzr.out Tryz.underlying24 rfl info_grid) rfl ⟨bset2 (r := w.heap.size + 2) hbx (by omega), ?_⟩
      rw [if_neg hfin.out]
    have t1' : 3 ≤ X.length := by omega
    have t1'' : (3 : Int) ≤ X.length := by omega
    clear t1
    by_cases t2 : maxG x o = minG x o + 1
    rotate_left
    · have hfin := Lib.hid (show ¬ desOk X O a x o = true by simp [desOk, t2])
      have t3 : (maxG x o != minG x o + 1) = true := by simpa using t2
      clear t2
      go_wp2_with fail
      refine bodyPost_ret (v := .tuple #[.agg #[.slice none 0 0, .slice none 0 0], .int .i64 6]) (results_ct Tryz.results94 _ _ (w.heap.size + 2) 24 _ _ rfl hzr.out Tryz.underlying24 rfl info_grid) rfl ⟨bset2 (r := w.heap.size + 2) hbx (by omega), ?_⟩
      rw [if_neg hfin.out]
    have t3 : (maxG x o != minG x o + 1) = false := by simp [t2]
    have hv := Lib.hid (show desOk X O a x o = desAll a x o 0 (X.drop 0) (O.drop 0) by simp [desOk, t2]; omega)
    have T2 := Lib.hid t2
    have t5 : decide ((X.length : Int) < 3) = false := by simp; omega
    have t6 : ¬ ((X.length : Int) < 3) := by omega
    clear t2
    go_wp2_with fail
    clear t5 t6
    clear t3 hz0 hz1 hz2 hz3 hzr hd0
    go_loopw [45] (fun i wr => ∃ k : Nat, k ≤ X.length ∧ i = .int .i64 k ∧ DesMid w.heap.size wr g (.slice (some ⟨b1, o1, none⟩) X.length c) (.slice (some ⟨b2, o2, none⟩) O.length c') a (minG x o) ∧ Below w.heap.size w wr ∧ Hid (desOk X O a x o = desAll a x o k (X.drop k) (O.drop k))) (fun i _ => X.length - (intOf i).toNat)
    case atStart => exact ⟨0, Nat.zero_le _, rfl, hm, hbx, hv⟩
    case round =>
      clear hv hm hbx
      obtain ⟨k, hk, rfl, hm, hbx, hv⟩ := hrel
      have hz0 := hm.2.2.1.cell 0
      have hz1 := hm.2.2.1.cell 1
      have hz2 := hm.2.2.1.frozen 0
      have hz3 := hm.2.2.1.frozen 1
      have hzr := Lib.hid ((hm.2.2.1.set 0 (.slice none 0 0)).set 1 (.slice none 0 0))
      have d0 := hm.1.cell 0
      have d1 := hm.1.cell 1
      have d2 := hm.2.1.cell 0
      by_cases hlt2 : k < X.length
      · have hlt3 : k < O.length := by have := HL.out; omega
        obtain ⟨b, o', e1, hbl, hcell⟩ := hX0.at_ hlt2
        obtain ⟨b', o'', e2, hbl', hcell'⟩ := hO0.at_ hlt3
        injection e1 with e1
        injection e1 with e1 e1'
        injection e2 with e2
        injection e2 with e2 e2'
        subst e1 e1' e2 e2'
        have hcX := (hbx.cell (p := ⟨b1, o1 + k, none⟩) hbl).trans hcell
        have hcO := (hbx.cell (p := ⟨b2, o2 + k, none⟩) hbl').trans hcell'
        have c1' := (hbx.cell (p := ⟨b1, o1 + a, none⟩) hlt).trans c1
        have c2' := (hbx.cell (p := ⟨b2, o2 + a, none⟩) hlt').trans c2
        rw [desAll_drop a x o X O hlt2 hlt3] at hv
        generalize X[k] = p at *
        generalize O[k] = q at *
        clear hcell hcell' c1 c2
        by_cases u1 : k = a
        · have u2 : ((k : Int) != (a : Int)) = false := by simp [u1]
          have hv' := Lib.hid (show desOk X O a x o = desAll a x o (k + 1) (X.drop (k + 1)) (O.drop (k + 1)) by rw [hv.out]; simp [u1])
          clear u1
          go_wp2_with fail
          go_quiet (fail)
          go_wp2_with fail
          go_roundw
          case rel => exact ⟨k + 1, by omega, by go_num, hm.below (bdrewN (Below.refl _ _) _), bdrewN hbx _, hv'⟩
          case measure => simp [intOf]; omega
        have u2 : ((k : Int) != (a : Int)) = true := by simp; omega
        by_cases u3 : q = x
        rotate_left
        · have u4 : (q == x) = false := by simpa using u3
          have hv' := Lib.hid (show desOk X O a x o = desAll a x o (k + 1) (X.drop (k + 1)) (O.drop (k + 1)) by rw [hv.out]; simp [u4])
          clear u1 u3
          go_wp2_with fail
          go_quiet (fail)
          go_wp2_with fail
          go_roundw
          case rel => exact ⟨k + 1, by omega, by go_num, hm.below (bdrewN (Below.refl _ _) _), bdrewN hbx _, hv'⟩
          case measure => simp [intOf]; omega
        have u4 : (q == x) = true := by simpa using u3
        by_cases u5 : p = o
        · have u6 : (p == o) = true := by simpa using u5
          have hfin := Lib.hid (show ¬ desOk X O a x o = true by rw [hv.out]; simp [u1, u4, u6])
          clear u1 u3 u5
          go_wp2_with fail
          go_quiet (fail)
          go_wp2_with fail
          refine bodyPost_ret (v := .tuple #[.agg #[.slice none 0 0, .slice none 0 0], .int .i64 6]) (results_ct Tryz.results94 _ _ (w.heap.size + 2) 24 _ _ rfl (hzr.out.drewN _) Tryz.underlying24 rfl info_grid) rfl ⟨bdrewN (bset2 (r := w.heap.size + 2) hbx (by omega)) _, ?_⟩
          rw [if_neg hfin.out]
        · have u6 : (p == o) = false := by simpa using u5
          have hv' := Lib.hid (show desOk X O a x o = desAll a x o (k + 1) (X.drop (k + 1)) (O.drop (k + 1)) by rw [hv.out]; simp [u6])
          clear u1 u3 u5
          go_wp2_with fail
          go_quiet (fail)
          go_wp2_with fail
          go_roundw
          case rel => exact ⟨k + 1, by omega, by go_num, hm.below (bdrewN (Below.refl _ _) _), bdrewN hbx _, hv'⟩
          case measure => simp [intOf]; omega
      · obtain rfl : k = X.length := by omega
        rw [List.drop_length] at hv
        have hfin := Lib.hid (show desOk X O a x o = true by rw [hv.out]; simp [desAll])
        clear c1 c2
        go_wp2_with fail
        rw [show ((X.length : Int) - 1) = ((X.length - 1 : Nat) : Int) from by omega]
        refine (relocate_any _ _ X O (X.length - 1) 104 #[.pointer (some ⟨g, 0, none⟩), .pointer (some ⟨w.heap.size + 1, 0, none⟩)] (mvDel (minG x o) a) _ Tryz.call104 hl (hX0.below hbx) (hO0.below hbx) HL.out (by omega)
          (fun W hW k h => destabilize1_any k X[k] (minG x o) a true g (w.heap.size + 1) W (by omega) (by omega) (by omega) (by omega) (rX.get h).1 (by have := (rX.get h).2; omega) k3 k1 ((hm.2.2.2.1.below hW hm.2.2.2.1.lt).cell 0) ((hm.2.1.below hW hm.2.1.lt).cell 0))
          (fun W hW k h => destabilize1_any k O[k] (minG x o) a false g (w.heap.size + 1) W (by omega) (by have := HL.out; omega) (by omega) (by omega) (rO.get h).1 (by have := (rO.get h).2; omega) k3 k1 ((hm.2.2.2.1.below hW hm.2.2.2.1.lt).cell 0) ((hm.2.1.below hW hm.2.1.lt).cell 0))
          (fun k h => mvDel_lt _ _ _ _ _ h ha) (fun k h => mvDel_lt _ _ _ _ _ (by have := HL.out; omega) ha)).mono ?_
        rintro e w2 ⟨v, rfl, ⟨gx, go, rfl, e1, e2, e3, a1, a2⟩, hb2⟩
        have hr := hm.2.2.1.below hb2 hm.2.2.1.lt
        have hbw := hbx.trans (hb2.mono hbx.size)
        have hsz := hbx.size
        have hlt5 := hm.2.2.1.lt
        have s0 := hr.cell 0
        have s1 := hr.cell 1
        have s2 := hr.frozen 0
        have s3 := hr.frozen 1
        have hres := Lib.hid ((hr.set 0 (.slice (some ⟨gx, 0, none⟩) (reloc (mvDel (minG x o) a) true (X.length - 1) X).length (reloc (mvDel (minG x o) a) true (X.length - 1) X).length)).set 1 (.slice (some ⟨go, 0, none⟩) (reloc (mvDel (minG x o) a) false (X.length - 1) O).length (reloc (mvDel (minG x o) a) false (X.length - 1) O).length))
        clear hz0 hz1 hz2 hz3 d0 d1 d2
        go_wp2_with fail
        refine bodyPost_ret (v := .tuple #[.agg #[.slice (some ⟨gx, 0, none⟩) (reloc (mvDel (minG x o) a) true (X.length - 1) X).length (reloc (mvDel (minG x o) a) true (X.length - 1) X).length, .slice (some ⟨go, 0, none⟩) (reloc (mvDel (minG x o) a) false (X.length - 1) O).length (reloc (mvDel (minG x o) a) false (X.length - 1) O).length], .int .i64 0]) (results_ct Tryz.results94 _ _ (w.heap.size + 2) 24 _ _ rfl hres.out Tryz.underlying24 rfl info_grid) rfl ⟨bset2 (r := w.heap.size + 2) hbw (by omega), ?_⟩
        rw [if_pos hfin.out]
        exact ⟨_, rfl, gx, go, rfl, e1, by omega, by omega, a1.far2 (r := w.heap.size + 2) (by omega), a2.far2 (r := w.heap.size + 2) (by omega)⟩
end Go.Proofs.YteliflcbegcdlaaGreatDoor

namespace Go.Proofs.YteliflcbegcdlaaGreatDoor
set_option linter.unusedVariables false
open Go.RowKit
def staX (X : List Int) (a r : Nat) (stays : Bool) : List Int := (reloc (mvAdd r stays a) true (X.length + 1) X).set a (if stays then r + 1 else r)
def staO (n : Nat) (O : List Int) (a r : Nat) (stays : Bool) : List Int := (reloc (mvAdd r stays a) false (n + 1) O).set a (if stays then r else r + 1)
def StaMid (B : Nat) (w : World) (g gx go : Nat) (X1 O1 : List Int) (a r : Int) : Prop :=
  Arr w (B + 1) 3 [.int .i64 a] ∧ Arr w (B + 2) 3 [.int .i64 r] ∧ Arr w (B + 4) 24 [.slice none 0 0, .slice none 0 0] ∧
  Arr w g 24 [.slice (some ⟨gx, 0, none⟩) X1.length X1.length, .slice (some ⟨go, 0, none⟩) O1.length O1.length] ∧
  Arr w gx 3 (ints X1) ∧ Arr w go 3 (ints O1) ∧ gx ≠ go ∧ B + 5 ≤ gx ∧ B + 5 ≤ go ∧ B + 5 ≤ g ∧ g ≠ gx ∧ g ≠ go
theorem StaMid.setX {B : Nat} {w : World} {g gx go : Nat} {X O : List Int} {a r : Int} (h : StaMid B w g gx go X O a r) (i : Nat) (x : Int) :
    StaMid B (w.setCell ⟨gx, i, none⟩ (.int .i64 x)) g gx go (X.set i x) O a r := by
  obtain ⟨h1, h2, h3, h4, h5, h6, e1, e2, e3, e4, e5, e6⟩ := h
  refine ⟨h1.far (p := ⟨gx, i, none⟩) (by show B + 1 ≠ gx; omega) _, h2.far (p := ⟨gx, i, none⟩) (by show B + 2 ≠ gx; omega) _, h3.far (p := ⟨gx, i, none⟩) (by show B + 4 ≠ gx; omega) _, ?_, ?_, h6.far (p := ⟨gx, i, none⟩) (fun h => e1 h.symm) _, e1, e2, e3, e4, e5, e6⟩
  · rw [List.length_set]; exact h4.far (p := ⟨gx, i, none⟩) e5 _
  · rw [← ints_set]; exact h5.set _ _
theorem StaMid.setO {B : Nat} {w : World} {g gx go : Nat} {X O : List Int} {a r : Int} (h : StaMid B w g gx go X O a r) (i : Nat) (x : Int) :
    StaMid B (w.setCell ⟨go, i, none⟩ (.int .i64 x)) g gx go X (O.set i x) a r := by
  obtain ⟨h1, h2, h3, h4, h5, h6, e1, e2, e3, e4, e5, e6⟩ := h
  refine ⟨h1.far (p := ⟨go, i, none⟩) (by show B + 1 ≠ go; omega) _, h2.far (p := ⟨go, i, none⟩) (by show B + 2 ≠ go; omega) _, h3.far (p := ⟨go, i, none⟩) (by show B + 4 ≠ go; omega) _, ?_, h5.far (p := ⟨go, i, none⟩) e1 _, ?_, e1, e2, e3, e4, e5, e6⟩
  · rw [List.length_set]; exact h4.far (p := ⟨go, i, none⟩) e6 _
  · rw [← ints_set]; exact h6.set _ _
theorem StaMid.drew {B : Nat} {w : World} {g gx go : Nat} {X O : List Int} {a r : Int} (h : StaMid B w g gx go X O a r) : StaMid B w.drew g gx go X O a r := h
theorem mvAdd_lt (r0 r : Int) (st b : Bool) (a k : Nat) {n : Nat} (hk : k < n) : (mvAdd r0 st a k r b).1 < ((n + 1 : Nat) : Int) := by
  simp only [mvAdd]
  repeat' split
  all_goals omega
set_option maxHeartbeats 1000000 in
theorem stabilize_any (vx vo : Value) (X O : List Int) (a r : Nat) (stays : Bool) (w : World) (hX : Ints w vx X) (hO : Ints w vo O) (hl : X.length ≤ 500) (hlen : X.length = O.length) (ha : a ≤ X.length) (hr : r ≤ 500)
    (rX : Rows X.length X) (rO : Rows X.length O) :
    Calls Tryz.prog 95 #[.agg #[vx, vo], .int .i64 a, .int .i64 r, .bool stays] w
      fun e w' => ∃ v, e = .returned v ∧ NewGrid w.heap.size w' v (staX X a r stays) (staO X.length O a r stays) ∧ Below w.heap.size w w' := by
  have HL := Lib.hid hlen
  clear hlen
  have hX0 := hX
  have hO0 := hO
  obtain ⟨A, c, rfl, hc, hh⟩ := hX
  obtain ⟨A', c', rfl, hc', hh'⟩ := hO
  clear hh hh'
  go_enter Tryz.func95, Tryz.ntmps95
  go_wp2_with fail
  have hW : Arr (((((w.alloc (.cells #[.slice A X.length c, .slice A' O.length c'] 24)).alloc (.cells #[.int .i64 (a : Int)] 3)).alloc (.cells #[.int .i64 (r : Int)] 3)).alloc (.cells #[.bool stays] 4)).alloc (.cells #[.slice none 0 0, .slice none 0 0] 24)) w.heap.size 24 [.slice A X.length c, .slice A' O.length c'] ∧ Arr (((((w.alloc (.cells #[.slice A X.length c, .slice A' O.length c'] 24)).alloc (.cells #[.int .i64 (a : Int)] 3)).alloc (.cells #[.int .i64 (r : Int)] 3)).alloc (.cells #[.bool stays] 4)).alloc (.cells #[.slice none 0 0, .slice none 0 0] 24)) (w.heap.size + 1) 3 [.int .i64 (a : Int)] ∧ Arr (((((w.alloc (.cells #[.slice A X.length c, .slice A' O.length c'] 24)).alloc (.cells #[.int .i64 (a : Int)] 3)).alloc (.cells #[.int .i64 (r : Int)] 3)).alloc (.cells #[.bool stays] 4)).alloc (.cells #[.slice none 0 0, .slice none 0 0] 24)) (w.heap.size + 2) 3 [.int .i64 (r : Int)] ∧ Arr (((((w.alloc (.cells #[.slice A X.length c, .slice A' O.length c'] 24)).alloc (.cells #[.int .i64 (a : Int)] 3)).alloc (.cells #[.int .i64 (r : Int)] 3)).alloc (.cells #[.bool stays] 4)).alloc (.cells #[.slice none 0 0, .slice none 0 0] 24)) (w.heap.size + 3) 4 [.bool stays] ∧
      Arr (((((w.alloc (.cells #[.slice A X.length c, .slice A' O.length c'] 24)).alloc (.cells #[.int .i64 (a : Int)] 3)).alloc (.cells #[.int .i64 (r : Int)] 3)).alloc (.cells #[.bool stays] 4)).alloc (.cells #[.slice none 0 0, .slice none 0 0] 24)) (w.heap.size + 4) 24 [.slice none 0 0, .slice none 0 0] ∧ Below w.heap.size w (((((w.alloc (.cells #[.slice A X.length c, .slice A' O.length c'] 24)).alloc (.cells #[.int .i64 (a : Int)] 3)).alloc (.cells #[.int .i64 (r : Int)] 3)).alloc (.cells #[.bool stays] 4)).alloc (.cells #[.slice none 0 0, .slice none 0 0] 24)) ∧ (((((w.alloc (.cells #[.slice A X.length c, .slice A' O.length c'] 24)).alloc (.cells #[.int .i64 (a : Int)] 3)).alloc (.cells #[.int .i64 (r : Int)] 3)).alloc (.cells #[.bool stays] 4)).alloc (.cells #[.slice none 0 0, .slice none 0 0] 24)).heap.size = w.heap.size + 5 :=
    ⟨((((Arr.new _ _ [_, _]).alloc _).alloc _).alloc _).alloc _, (((Arr.newAt (w.alloc _) _ [_] _ (by simp)).alloc _).alloc _).alloc _, ((Arr.newAt ((w.alloc _).alloc _) _ [_] _ (by simp)).alloc _).alloc _, (Arr.newAt (((w.alloc _).alloc _).alloc _) _ [_] _ (by simp)).alloc _, Arr.newAt ((((w.alloc _).alloc _).alloc _).alloc _) _ [_, _] _ (by simp),
      (((((Below.refl _ _).alloc (Nat.le_refl _) _).alloc (by simp) _).alloc (by simp <;> omega) _).alloc (by simp <;> omega) _).alloc (by simp <;> omega) _, by simp⟩
  generalize (((((w.alloc (.cells #[.slice A X.length c, .slice A' O.length c'] 24)).alloc (.cells #[.int .i64 (a : Int)] 3)).alloc (.cells #[.int .i64 (r : Int)] 3)).alloc (.cells #[.bool stays] 4)).alloc (.cells #[.slice none 0 0, .slice none 0 0] 24)) = w5 at hW ⊢
  obtain ⟨q0, q1, q2, q3, q4, hb5, hs5⟩ := hW
  rw [show ((X.length : Int) + 1) = ((X.length + 1 : Nat) : Int) from by omega]
  refine (relocate_any _ _ X O (X.length + 1) 105 #[.pointer (some ⟨w.heap.size + 2, 0, none⟩), .pointer (some ⟨w.heap.size + 3, 0, none⟩), .pointer (some ⟨w.heap.size + 1, 0, none⟩)] (mvAdd r stays a) _ Tryz.call105 (by omega) (hX0.below hb5) (hO0.below hb5) HL.out (by omega)
    (fun W hW k h => stabilize1_any k X[k] r a true stays (w.heap.size + 2) (w.heap.size + 3) (w.heap.size + 1) W (by omega) (by omega) (by omega) (by omega) (rX.get h).1 (by have := (rX.get h).2; omega) (by omega) (by omega) ((q2.below hW q2.lt).cell 0) ((q3.below hW q3.lt).cell 0) ((q1.below hW q1.lt).cell 0))
    (fun W hW k h => stabilize1_any k O[k] r a false stays (w.heap.size + 2) (w.heap.size + 3) (w.heap.size + 1) W (by omega) (by have := HL.out; omega) (by omega) (by omega) (rO.get h).1 (by have := (rO.get h).2; omega) (by omega) (by omega) ((q2.below hW q2.lt).cell 0) ((q3.below hW q3.lt).cell 0) ((q1.below hW q1.lt).cell 0))
    (fun k h => mvAdd_lt _ _ _ _ _ _ h) (fun k h => mvAdd_lt _ _ _ _ _ _ (by have := HL.out; omega))).mono ?_
  rintro e w1 ⟨v, rfl, ⟨gx, go, rfl, e1, e2, e3, a1, a2⟩, hb⟩
  have f1 := q1.below hb q1.lt
  have f2 := q2.below hb q2.lt
  have f3 := q3.below hb q3.lt
  have f4 := q4.below hb q4.lt
  have hbw := hb5.trans (hb.mono hb5.size)
  have HS := Lib.hid hs5
  have z3 := f3.cell 0
  have l1 := f1.lt
  have l2 := f2.lt
  have l3 := f3.lt
  rw [hs5] at e2 e3
  clear hb q0 q1 q2 q3 q4 hs5
  have hx1 : (reloc (mvAdd r stays a) true (X.length + 1) X).length = X.length + 1 := by simp [reloc, relTo_length]
  have ho1 : (reloc (mvAdd r stays a) false (X.length + 1) O).length = X.length + 1 := by simp [reloc, relTo_length]
  have hX1 := Lib.hid hx1
  have hO1 := Lib.hid ho1
  clear hx1 ho1
  cases stays with
  | true =>
    go_upto_region 3 with fail
    have hM : StaMid w.heap.size (w1.alloc (.cells #[.slice (some ⟨gx, 0, none⟩) (reloc (mvAdd r true a) true (X.length + 1) X).length (reloc (mvAdd r true a) true (X.length + 1) X).length, .slice (some ⟨go, 0, none⟩) (reloc (mvAdd r true a) false (X.length + 1) O).length (reloc (mvAdd r true a) false (X.length + 1) O).length] 24)) w1.heap.size gx go (reloc (mvAdd r true a) true (X.length + 1) X) (reloc (mvAdd r true a) false (X.length + 1) O) a r ∧ Below w.heap.size w (w1.alloc (.cells #[.slice (some ⟨gx, 0, none⟩) (reloc (mvAdd r true a) true (X.length + 1) X).length (reloc (mvAdd r true a) true (X.length + 1) X).length, .slice (some ⟨go, 0, none⟩) (reloc (mvAdd r true a) false (X.length + 1) O).length (reloc (mvAdd r true a) false (X.length + 1) O).length] 24)) :=
      ⟨⟨f1.alloc _, f2.alloc _, f4.alloc _, Arr.new w1 _ [_, _], a1.alloc _, a2.alloc _, e1, by omega, by omega, by have := f4.lt; omega, by have := a1.lt; omega, by have := a2.lt; omega⟩, hbw.alloc hbw.size _⟩
    generalize (w1.alloc (.cells #[.slice (some ⟨gx, 0, none⟩) (reloc (mvAdd r true a) true (X.length + 1) X).length (reloc (mvAdd r true a) true (X.length + 1) X).length, .slice (some ⟨go, 0, none⟩) (reloc (mvAdd r true a) false (X.length + 1) O).length (reloc (mvAdd r true a) false (X.length + 1) O).length] 24)) = w6 at hM ⊢
    generalize w1.heap.size = g at hM ⊢
    obtain ⟨hm, hb6⟩ := hM
    clear f1 f2 f3 f4 a1 a2 z3 l1 l2 l3 hbw
    have m1 := hm.1.cell 0
    have m2 := hm.2.1.cell 0
    have m3 := hm.2.2.2.1.cell 0
    have m4 := hm.2.2.2.1.cell 1
    have hax : a < (reloc (mvAdd r true a) true (X.length + 1) X).length := by rw [hX1.out]; omega
    have hao : a < (reloc (mvAdd r true a) false (X.length + 1) O).length := by rw [hO1.out]; omega
    have m5 := (hm.2.2.2.2.1.cell a).trans (ints_get _ hax)
    have m6 := (hm.2.2.2.2.2.1.cell a).trans (ints_get _ hao)
    have m7 := hm.2.2.2.2.1.frozen a
    have m8 := hm.2.2.2.2.2.1.frozen a
    have n1 := hm.2.2.2.2.2.2.1
    have n2 := hm.2.2.2.2.2.2.2.2.2.2.1.symm
    have n3 := hm.2.2.2.2.2.2.2.2.2.2.2.symm
    have n8 := n1.symm
    have n4 : gx ≠ w.heap.size + 1 := by omega
    have n5 : gx ≠ w.heap.size + 2 := by omega
    have n6 : go ≠ w.heap.size + 1 := by omega
    have n7 : go ≠ w.heap.size + 2 := by omega
    go_cut [] (fun wx => StaMid w.heap.size wx g gx go ((reloc (mvAdd r true a) true (X.length + 1) X).set a ((r : Int) + 1)) ((reloc (mvAdd r true a) false (X.length + 1) O).set a ((r : Int))) a r ∧ Below w.heap.size w wx)
    case first =>
      go_region_held3 (fun w' => w'.cell? ⟨g, 0, none⟩ = some (.slice (some ⟨gx, 0, none⟩) (reloc (mvAdd r true a) true (X.length + 1) X).length (reloc (mvAdd r true a) true (X.length + 1) X).length) ∧ w'.cell? ⟨g, 1, none⟩ = some (.slice (some ⟨go, 0, none⟩) (reloc (mvAdd r true a) false (X.length + 1) O).length (reloc (mvAdd r true a) false (X.length + 1) O).length) ∧ w'.cell? ⟨w.heap.size + 1, 0, none⟩ = some (.int .i64 (a : Int)) ∧ w'.cell? ⟨w.heap.size + 2, 0, none⟩ = some (.int .i64 (r : Int))) (go_keep) (first | fail)
      go_wp2_with fail
      go_meet
      rw [show IntKind.i64.wrap ((r : Int) + 1) = (r : Int) + 1 from IntWalk.i64_in _ (by omega)]
      exact ⟨((hm.setO a r).setX a ((r : Int) + 1)).drew, ((hb6.setCell (p := ⟨go, a, none⟩) (by show w.heap.size ≤ go; omega) _).setCell (p := ⟨gx, a, none⟩) (by show w.heap.size ≤ gx; omega) _).drew⟩
    case rest =>
      clear m1 m2 m3 m4 m5 m6 m7 m8 n4 n5 n6 n7 hm hb6
      obtain ⟨hm, hb6⟩ := hcut
      have m3 := hm.2.2.2.1.cell 0
      have m4 := hm.2.2.2.1.cell 1
      have hr := hm.2.2.1
      have s0 := hr.cell 0
      have s1 := hr.cell 1
      have s2 := hr.frozen 0
      have s3 := hr.frozen 1
      have hres := Lib.hid ((hr.set 0 (.slice (some ⟨gx, 0, none⟩) (reloc (mvAdd r true a) true (X.length + 1) X).length (reloc (mvAdd r true a) true (X.length + 1) X).length)).set 1 (.slice (some ⟨go, 0, none⟩) (reloc (mvAdd r true a) false (X.length + 1) O).length (reloc (mvAdd r true a) false (X.length + 1) O).length))
      go_wp2_with fail
      refine bodyPost_ret (v := .agg #[.slice (some ⟨gx, 0, none⟩) (reloc (mvAdd r true a) true (X.length + 1) X).length (reloc (mvAdd r true a) true (X.length + 1) X).length, .slice (some ⟨go, 0, none⟩) (reloc (mvAdd r true a) false (X.length + 1) O).length (reloc (mvAdd r true a) false (X.length + 1) O).length]) (results_c Tryz.results95 _ _ (w.heap.size + 4) 24 _ _ rfl hres.out Tryz.underlying24 rfl info_grid) rfl ⟨_, rfl, ?_, ?_⟩
      · exact ⟨gx, go, by simp only [staX, staO, List.length_set], hm.2.2.2.2.2.2.1, by omega, by omega, hm.2.2.2.2.1.far2 (r := w.heap.size + 4) (by omega), hm.2.2.2.2.2.1.far2 (r := w.heap.size + 4) (by omega)⟩
      · exact bset2 (r := w.heap.size + 4) hb6 (by omega)
  | false =>
    go_upto_region 4 with fail
    have hM : StaMid w.heap.size (w1.alloc (.cells #[.slice (some ⟨gx, 0, none⟩) (reloc (mvAdd r false a) true (X.length + 1) X).length (reloc (mvAdd r false a) true (X.length + 1) X).length, .slice (some ⟨go, 0, none⟩) (reloc (mvAdd r false a) false (X.length + 1) O).length (reloc (mvAdd r false a) false (X.length + 1) O).length] 24)) w1.heap.size gx go (reloc (mvAdd r false a) true (X.length + 1) X) (reloc (mvAdd r false a) false (X.length + 1) O) a r ∧ Below w.heap.size w (w1.alloc (.cells #[.slice (some ⟨gx, 0, none⟩) (reloc (mvAdd r false a) true (X.length + 1) X).length (reloc (mvAdd r false a) true (X.length + 1) X).length, .slice (some ⟨go, 0, none⟩) (reloc (mvAdd r false a) false (X.length + 1) O).length (reloc (mvAdd r false a) false (X.length + 1) O).length] 24)) :=
      ⟨⟨f1.alloc _, f2.alloc _, f4.alloc _, Arr.new w1 _ [_, _], a1.alloc _, a2.alloc _, e1, by omega, by omega, by have := f4.lt; omega, by have := a1.lt; omega, by have := a2.lt; omega⟩, hbw.alloc hbw.size _⟩
    generalize (w1.alloc (.cells #[.slice (some ⟨gx, 0, none⟩) (reloc (mvAdd r false a) true (X.length + 1) X).length (reloc (mvAdd r false a) true (X.length + 1) X).length, .slice (some ⟨go, 0, none⟩) (reloc (mvAdd r false a) false (X.length + 1) O).length (reloc (mvAdd r false a) false (X.length + 1) O).length] 24)) = w6 at hM ⊢
    generalize w1.heap.size = g at hM ⊢
    obtain ⟨hm, hb6⟩ := hM
    clear f1 f2 f3 f4 a1 a2 z3 l1 l2 l3 hbw
    have m1 := hm.1.cell 0
    have m2 := hm.2.1.cell 0
    have m3 := hm.2.2.2.1.cell 0
    have m4 := hm.2.2.2.1.cell 1
    have hax : a < (reloc (mvAdd r false a) true (X.length + 1) X).length := by rw [hX1.out]; omega
    have hao : a < (reloc (mvAdd r false a) false (X.length + 1) O).length := by rw [hO1.out]; omega
    have m5 := (hm.2.2.2.2.1.cell a).trans (ints_get _ hax)
    have m6 := (hm.2.2.2.2.2.1.cell a).trans (ints_get _ hao)
    have m7 := hm.2.2.2.2.1.frozen a
    have m8 := hm.2.2.2.2.2.1.frozen a
    have n1 := hm.2.2.2.2.2.2.1
    have n2 := hm.2.2.2.2.2.2.2.2.2.2.1.symm
    have n3 := hm.2.2.2.2.2.2.2.2.2.2.2.symm
    have n8 := n1.symm
    have n4 : gx ≠ w.heap.size + 1 := by omega
    have n5 : gx ≠ w.heap.size + 2 := by omega
    have n6 : go ≠ w.heap.size + 1 := by omega
    have n7 : go ≠ w.heap.size + 2 := by omega
    go_cut [] (fun wx => StaMid w.heap.size wx g gx go ((reloc (mvAdd r false a) true (X.length + 1) X).set a (r : Int)) ((reloc (mvAdd r false a) false (X.length + 1) O).set a ((r : Int) + 1)) a r ∧ Below w.heap.size w wx)
    case first =>
      go_region_held3 (fun w' => w'.cell? ⟨g, 0, none⟩ = some (.slice (some ⟨gx, 0, none⟩) (reloc (mvAdd r false a) true (X.length + 1) X).length (reloc (mvAdd r false a) true (X.length + 1) X).length) ∧ w'.cell? ⟨g, 1, none⟩ = some (.slice (some ⟨go, 0, none⟩) (reloc (mvAdd r false a) false (X.length + 1) O).length (reloc (mvAdd r false a) false (X.length + 1) O).length) ∧ w'.cell? ⟨w.heap.size + 1, 0, none⟩ = some (.int .i64 (a : Int)) ∧ w'.cell? ⟨w.heap.size + 2, 0, none⟩ = some (.int .i64 (r : Int))) (go_keep) (first | fail)
      go_wp2_with fail
      go_meet
      rw [show IntKind.i64.wrap ((r : Int) + 1) = (r : Int) + 1 from IntWalk.i64_in _ (by omega)]
      exact ⟨((hm.setX a r).setO a ((r : Int) + 1)).drew, ((hb6.setCell (p := ⟨gx, a, none⟩) (by show w.heap.size ≤ gx; omega) _).setCell (p := ⟨go, a, none⟩) (by show w.heap.size ≤ go; omega) _).drew⟩
    case rest =>
      clear m1 m2 m3 m4 m5 m6 m7 m8 n4 n5 n6 n7 hm hb6
      obtain ⟨hm, hb6⟩ := hcut
      have m3 := hm.2.2.2.1.cell 0
      have m4 := hm.2.2.2.1.cell 1
      have hr := hm.2.2.1
      have s0 := hr.cell 0
      have s1 := hr.cell 1
      have s2 := hr.frozen 0
      have s3 := hr.frozen 1
      have hres := Lib.hid ((hr.set 0 (.slice (some ⟨gx, 0, none⟩) (reloc (mvAdd r false a) true (X.length + 1) X).length (reloc (mvAdd r false a) true (X.length + 1) X).length)).set 1 (.slice (some ⟨go, 0, none⟩) (reloc (mvAdd r false a) false (X.length + 1) O).length (reloc (mvAdd r false a) false (X.length + 1) O).length))
      go_wp2_with fail
      refine bodyPost_ret (v := .agg #[.slice (some ⟨gx, 0, none⟩) (reloc (mvAdd r false a) true (X.length + 1) X).length (reloc (mvAdd r false a) true (X.length + 1) X).length, .slice (some ⟨go, 0, none⟩) (reloc (mvAdd r false a) false (X.length + 1) O).length (reloc (mvAdd r false a) false (X.length + 1) O).length]) (results_c Tryz.results95 _ _ (w.heap.size + 4) 24 _ _ rfl hres.out Tryz.underlying24 rfl info_grid) rfl ⟨_, rfl, ?_, ?_⟩
      · exact ⟨gx, go, by simp only [staX, staO, List.length_set], hm.2.2.2.2.2.2.1, by omega, by omega, hm.2.2.2.2.1.far2 (r := w.heap.size + 4) (by omega), hm.2.2.2.2.2.1.far2 (r := w.heap.size + 4) (by omega)⟩
      · exact bset2 (r := w.heap.size + 4) hb6 (by omega)
end Go.Proofs.YteliflcbegcdlaaGreatDoor

namespace Go.Proofs.YteliflcbegcdlaaGreatDoor
open Go.RowKit
set_option linter.unusedVariables false
/-- what a move function returns: an error number, and a new grid if it is 0 -/
def GRes (B : Nat) (w : World) (r : Int × List Int × List Int) (e : Ending) (w' : World) : Prop :=
  Below B w w' ∧ ∃ v, e = .returned (.tuple #[v, .int .i64 r.1]) ∧ if r.1 = 0 then NewGrid B w' v r.2.1 r.2.2 else v = .agg #[.slice none 0 0, .slice none 0 0]
theorem GRes.ok {B : Nat} {w w' : World} {X O : List Int} {v : Value} (hb : Below B w w') (h : NewGrid B w' v X O) : GRes B w (0, X, O) (.returned (.tuple #[v, .int .i64 0])) w' :=
  ⟨hb, v, rfl, by rw [if_pos rfl]; exact h⟩
theorem GRes.err {B : Nat} {w w' : World} {code : Int} (hc : code ≠ 0) (hb : Below B w w') : GRes B w (code, [], []) (.returned (.tuple #[.agg #[.slice none 0 0, .slice none 0 0], .int .i64 code])) w' :=
  ⟨hb, _, rfl, by rw [if_neg hc]⟩
def rotM (X O : List Int) : Int × List Int × List Int := (0, reloc (mvRot X.length) true X.length X, reloc (mvRot X.length) false X.length O)
def swapM (X O : List Int) (a : Nat) : Int × List Int × List Int :=
  if commB (X.getD a 0) (O.getD a 0) (X.getD (a + 1) 0) (O.getD (a + 1) 0) then (0, reloc (mvSwap a) true X.length X, reloc (mvSwap a) false X.length O) else (6, [], [])
def desM (X O : List Int) (a : Nat) : Int × List Int × List Int :=
  if desOk X O a (X.getD a 0) (O.getD a 0) then (0, reloc (mvDel (minG (X.getD a 0) (O.getD a 0)) a) true (X.length - 1) X, reloc (mvDel (minG (X.getD a 0) (O.getD a 0)) a) false (X.length - 1) O) else (6, [], [])
def staM (X O : List Int) (a v : Nat) : Int × List Int × List Int :=
  if X.length = 40 then (5, [], []) else (0, staX X a (v / 2) (decide (v % 2 = 0)), staO X.length O a (v / 2) (decide (v % 2 = 0)))
def colsM (X O : List Int) (k : Int) (a v : Nat) : Int × List Int × List Int :=
  if k = 1 then rotM X O else if k = 2 then swapM X O a else if k = 3 then desM X O a else staM X O a v
theorem mvRot_lt (n : Nat) (c r : Int) (b : Bool) (h : 2 ≤ n) : (mvRot n c r b).1 < n := Int.emod_lt_of_pos _ (by omega)
theorem mvSwap_lt (a k n : Nat) (r : Int) (b : Bool) (h : k < n) (h' : a + 1 < n) : (mvSwap a k r b).1 < n := by
  simp only [mvSwap]
  repeat' split
  all_goals omega
set_option maxHeartbeats 1000000 in
theorem columns_rot (vx vo : Value) (X O : List Int) (rows : Bool) (a v : Nat) (w : World) (hX : Ints w vx X) (hO : Ints w vo O) (hl : X.length ≤ 40) (hl2 : 2 ≤ X.length) (hlen : X.length = O.length) (rX : Rows X.length X) (rO : Rows X.length O) :
    Calls Tryz.prog 74 #[.agg #[vx, vo], .agg #[.int .i64 1, .bool rows, .int .i64 (a : Int), .int .i64 (v : Int)]] w (GRes w.heap.size w (rotM X O)) := by
  have HL := Lib.hid hlen
  clear hlen
  have hX0 := hX
  have hO0 := hO
  obtain ⟨A, c, rfl, hc, hh⟩ := hX
  obtain ⟨A', c', rfl, hc', hh'⟩ := hO
  clear hh hh'
  go_enter Tryz.func74, Tryz.ntmps74
  go_wp2_with fail
  have hW : Arr ((((w.alloc (.cells #[.slice A X.length c, .slice A' O.length c'] 24)).alloc (.cells #[.int .i64 1, .bool rows, .int .i64 (a : Int), .int .i64 (v : Int)] 94)).alloc (.cells #[.slice none 0 0, .slice none 0 0] 24)).alloc (.cells #[.int .i64 (X.length : Int)] 3)) w.heap.size 24 [.slice A X.length c, .slice A' O.length c'] ∧ Arr ((((w.alloc (.cells #[.slice A X.length c, .slice A' O.length c'] 24)).alloc (.cells #[.int .i64 1, .bool rows, .int .i64 (a : Int), .int .i64 (v : Int)] 94)).alloc (.cells #[.slice none 0 0, .slice none 0 0] 24)).alloc (.cells #[.int .i64 (X.length : Int)] 3)) (w.heap.size + 1) 94 [.int .i64 1, .bool rows, .int .i64 (a : Int), .int .i64 (v : Int)] ∧ Arr ((((w.alloc (.cells #[.slice A X.length c, .slice A' O.length c'] 24)).alloc (.cells #[.int .i64 1, .bool rows, .int .i64 (a : Int), .int .i64 (v : Int)] 94)).alloc (.cells #[.slice none 0 0, .slice none 0 0] 24)).alloc (.cells #[.int .i64 (X.length : Int)] 3)) (w.heap.size + 2) 24 [.slice none 0 0, .slice none 0 0] ∧
      Arr ((((w.alloc (.cells #[.slice A X.length c, .slice A' O.length c'] 24)).alloc (.cells #[.int .i64 1, .bool rows, .int .i64 (a : Int), .int .i64 (v : Int)] 94)).alloc (.cells #[.slice none 0 0, .slice none 0 0] 24)).alloc (.cells #[.int .i64 (X.length : Int)] 3)) (w.heap.size + 3) 3 [.int .i64 (X.length : Int)] ∧ Below w.heap.size w ((((w.alloc (.cells #[.slice A X.length c, .slice A' O.length c'] 24)).alloc (.cells #[.int .i64 1, .bool rows, .int .i64 (a : Int), .int .i64 (v : Int)] 94)).alloc (.cells #[.slice none 0 0, .slice none 0 0] 24)).alloc (.cells #[.int .i64 (X.length : Int)] 3)) ∧ ((((w.alloc (.cells #[.slice A X.length c, .slice A' O.length c'] 24)).alloc (.cells #[.int .i64 1, .bool rows, .int .i64 (a : Int), .int .i64 (v : Int)] 94)).alloc (.cells #[.slice none 0 0, .slice none 0 0] 24)).alloc (.cells #[.int .i64 (X.length : Int)] 3)).heap.size = w.heap.size + 4 :=
    ⟨(((Arr.new _ _ [_, _]).alloc _).alloc _).alloc _, ((Arr.newAt (w.alloc _) _ [_, _, _, _] _ (by simp)).alloc _).alloc _, (Arr.newAt ((w.alloc _).alloc _) _ [_, _] _ (by simp)).alloc _, Arr.newAt (((w.alloc _).alloc _).alloc _) _ [_] _ (by simp),
      ((((Below.refl _ _).alloc (Nat.le_refl _) _).alloc (by simp) _).alloc (by simp <;> omega) _).alloc (by simp <;> omega) _, by simp⟩
  generalize ((((w.alloc (.cells #[.slice A X.length c, .slice A' O.length c'] 24)).alloc (.cells #[.int .i64 1, .bool rows, .int .i64 (a : Int), .int .i64 (v : Int)] 94)).alloc (.cells #[.slice none 0 0, .slice none 0 0] 24)).alloc (.cells #[.int .i64 (X.length : Int)] 3)) = w4 at hW ⊢
  obtain ⟨q0, q1, q2, q3, hb4, hs4⟩ := hW
  refine (relocate_any _ _ X O X.length 91 #[.pointer (some ⟨w.heap.size + 3, 0, none⟩)] (mvRot X.length) _ Tryz.call91 (by omega) (hX0.below hb4) (hO0.below hb4) HL.out (by omega)
    (fun W hW k h => columns1_any k X[k] X.length true (w.heap.size + 3) W (by omega) (by omega) (by omega) (by omega) ((q3.below hW q3.lt).cell 0))
    (fun W hW k h => columns1_any k O[k] X.length false (w.heap.size + 3) W (by omega) (by have := HL.out; omega) (by omega) (by omega) ((q3.below hW q3.lt).cell 0))
    (fun k h => mvRot_lt _ _ _ _ hl2) (fun k h => mvRot_lt _ _ _ _ hl2)).mono ?_
  rintro e w1 ⟨v1, rfl, ⟨gx, go, rfl, e1, e2, e3, a1, a2⟩, hb⟩
  have hr := q2.below hb q2.lt
  have hbw := hb4.trans (hb.mono hb4.size)
  have hlt5 := q2.lt
  have s0 := hr.cell 0
  have s1 := hr.cell 1
  have s2 := hr.frozen 0
  have s3 := hr.frozen 1
  have hres := Lib.hid ((hr.set 0 (.slice (some ⟨gx, 0, none⟩) (reloc (mvRot X.length) true X.length X).length (reloc (mvRot X.length) true X.length X).length)).set 1 (.slice (some ⟨go, 0, none⟩) (reloc (mvRot X.length) false X.length O).length (reloc (mvRot X.length) false X.length O).length))
  go_wp2_with fail
  refine bodyPost_ret (v := .tuple #[.agg #[.slice (some ⟨gx, 0, none⟩) (reloc (mvRot X.length) true X.length X).length (reloc (mvRot X.length) true X.length X).length, .slice (some ⟨go, 0, none⟩) (reloc (mvRot X.length) false X.length O).length (reloc (mvRot X.length) false X.length O).length], .int .i64 0]) (results_ct Tryz.results74 _ _ (w.heap.size + 2) 24 _ _ rfl hres.out Tryz.underlying24 rfl info_grid) rfl ?_
  unfold rotM
  exact GRes.ok (bset2 (r := w.heap.size + 2) hbw (by omega)) ⟨gx, go, rfl, e1, by omega, by omega, a1.far2 (r := w.heap.size + 2) (by omega), a2.far2 (r := w.heap.size + 2) (by omega)⟩
set_option maxHeartbeats 1000000 in
theorem columns_swap (vx vo : Value) (X O : List Int) (rows : Bool) (a v : Nat) (w : World) (hX : Ints w vx X) (hO : Ints w vo O) (hl : X.length ≤ 40) (hl2 : 2 ≤ X.length) (hlen : X.length = O.length) (rX : Rows X.length X) (rO : Rows X.length O) (ha : a + 1 < X.length) :
    Calls Tryz.prog 74 #[.agg #[vx, vo], .agg #[.int .i64 2, .bool rows, .int .i64 (a : Int), .int .i64 (v : Int)]] w (GRes w.heap.size w (swapM X O a)) := by
  have hao : a + 1 < O.length := by omega
  have ha0 : a < X.length := by omega
  have ho0 : a < O.length := by omega
  have HL := Lib.hid hlen
  clear hlen
  have hX0 := hX
  have hO0 := hO
  obtain ⟨A, c, rfl, hc, hh⟩ := hX
  obtain ⟨A', c', rfl, hc', hh'⟩ := hO
  clear hh hh'
  go_enter Tryz.func74, Tryz.ntmps74
  go_wp2_with fail
  have hW : Arr ((((w.alloc (.cells #[.slice A X.length c, .slice A' O.length c'] 24)).alloc (.cells #[.int .i64 2, .bool rows, .int .i64 (a : Int), .int .i64 (v : Int)] 94)).alloc (.cells #[.slice none 0 0, .slice none 0 0] 24)).alloc (.cells #[.int .i64 (X.length : Int)] 3)) w.heap.size 24 [.slice A X.length c, .slice A' O.length c'] ∧ Arr ((((w.alloc (.cells #[.slice A X.length c, .slice A' O.length c'] 24)).alloc (.cells #[.int .i64 2, .bool rows, .int .i64 (a : Int), .int .i64 (v : Int)] 94)).alloc (.cells #[.slice none 0 0, .slice none 0 0] 24)).alloc (.cells #[.int .i64 (X.length : Int)] 3)) (w.heap.size + 1) 94 [.int .i64 2, .bool rows, .int .i64 (a : Int), .int .i64 (v : Int)] ∧ Arr ((((w.alloc (.cells #[.slice A X.length c, .slice A' O.length c'] 24)).alloc (.cells #[.int .i64 2, .bool rows, .int .i64 (a : Int), .int .i64 (v : Int)] 94)).alloc (.cells #[.slice none 0 0, .slice none 0 0] 24)).alloc (.cells #[.int .i64 (X.length : Int)] 3)) (w.heap.size + 2) 24 [.slice none 0 0, .slice none 0 0] ∧
      Arr ((((w.alloc (.cells #[.slice A X.length c, .slice A' O.length c'] 24)).alloc (.cells #[.int .i64 2, .bool rows, .int .i64 (a : Int), .int .i64 (v : Int)] 94)).alloc (.cells #[.slice none 0 0, .slice none 0 0] 24)).alloc (.cells #[.int .i64 (X.length : Int)] 3)) (w.heap.size + 3) 3 [.int .i64 (X.length : Int)] ∧ Below w.heap.size w ((((w.alloc (.cells #[.slice A X.length c, .slice A' O.length c'] 24)).alloc (.cells #[.int .i64 2, .bool rows, .int .i64 (a : Int), .int .i64 (v : Int)] 94)).alloc (.cells #[.slice none 0 0, .slice none 0 0] 24)).alloc (.cells #[.int .i64 (X.length : Int)] 3)) ∧ ((((w.alloc (.cells #[.slice A X.length c, .slice A' O.length c'] 24)).alloc (.cells #[.int .i64 2, .bool rows, .int .i64 (a : Int), .int .i64 (v : Int)] 94)).alloc (.cells #[.slice none 0 0, .slice none 0 0] 24)).alloc (.cells #[.int .i64 (X.length : Int)] 3)).heap.size = w.heap.size + 4 :=
    ⟨(((Arr.new _ _ [_, _]).alloc _).alloc _).alloc _, ((Arr.newAt (w.alloc _) _ [_, _, _, _] _ (by simp)).alloc _).alloc _, (Arr.newAt ((w.alloc _).alloc _) _ [_, _] _ (by simp)).alloc _, Arr.newAt (((w.alloc _).alloc _).alloc _) _ [_] _ (by simp),
      ((((Below.refl _ _).alloc (Nat.le_refl _) _).alloc (by simp) _).alloc (by simp <;> omega) _).alloc (by simp <;> omega) _, by simp⟩
  generalize ((((w.alloc (.cells #[.slice A X.length c, .slice A' O.length c'] 24)).alloc (.cells #[.int .i64 2, .bool rows, .int .i64 (a : Int), .int .i64 (v : Int)] 94)).alloc (.cells #[.slice none 0 0, .slice none 0 0] 24)).alloc (.cells #[.int .i64 (X.length : Int)] 3)) = w4 at hW ⊢
  obtain ⟨q0, q1, q2, q3, hb4, hs4⟩ := hW
  refine (commutes_any _ _ X O a _ (hX0.below hb4) (hO0.below hb4) (by omega) ha hao).mono ?_
  rintro e w5 ⟨rfl, hb5⟩
  have hg : Hid (commB X[a] O[a] X[a+1] O[a+1] = commB (X.getD a 0) (O.getD a 0) (X.getD (a + 1) 0) (O.getD (a + 1) 0)) := by
    show _ = _
    simp [List.getD_eq_getElem?_getD, ha, hao, ha0, ho0]
  have hbw5 := hb4.trans (hb5.mono hb4.size)
  have p0 := q0.below hb5 q0.lt
  have p1 := q1.below hb5 q1.lt
  have p2 := q2.below hb5 q2.lt
  have p3 := q3.below hb5 q3.lt
  have hsz5 := hb5.size
  generalize commB X[a] O[a] X[a+1] O[a+1] = R at *
  have y0 := p0.cell 0
  have y1 := p0.cell 1
  have y2 := p2.cell 0
  have y3 := p2.cell 1
  have y4 := p2.frozen 0
  have y5 := p2.frozen 1
  have y6 := p3.cell 0
  cases R with
  | false =>
    have hzr := Lib.hid ((p2.set 0 (.slice none 0 0)).set 1 (.slice none 0 0))
    have hfin := Lib.hid (show swapM X O a = (6, [], []) by simp only [swapM]; rw [← hg.out]; rfl)
    go_wp2_with fail
    refine bodyPost_ret (v := .tuple #[.agg #[.slice none 0 0, .slice none 0 0], .int .i64 6]) (results_ct Tryz.results74 _ _ (w.heap.size + 2) 24 _ _ rfl hzr.out Tryz.underlying24 rfl info_grid) rfl ?_
    rw [hfin.out]
    exact GRes.err (by decide) (bset2 (r := w.heap.size + 2) hbw5 (by omega))
  | true =>
    have hfin := Lib.hid (show swapM X O a = (0, (reloc (mvSwap a) true X.length X), (reloc (mvSwap a) false X.length O)) by simp only [swapM]; rw [← hg.out]; rfl)
    go_wp2_with fail
    refine (relocate_any _ _ X O X.length 93 #[.pointer (some ⟨w.heap.size + 1, 0, none⟩)] (mvSwap a) _ Tryz.call93 (by omega) (hX0.below hbw5) (hO0.below hbw5) HL.out (by omega)
      (fun W hW k h => columns2_any k X[k] a true (w.heap.size + 1) W (by omega) (by omega) (by omega) (by omega) ((p1.below hW p1.lt).cell 2))
      (fun W hW k h => columns2_any k O[k] a false (w.heap.size + 1) W (by omega) (by have := HL.out; omega) (by omega) (by omega) ((p1.below hW p1.lt).cell 2))
      (fun k h => mvSwap_lt _ _ _ _ _ h ha) (fun k h => mvSwap_lt _ _ _ _ _ (by have := HL.out; omega) ha)).mono ?_
    clear y0 y1 y2 y3 y4 y5 y6
    rintro e w1 ⟨v1, rfl, ⟨gx, go, rfl, e1, e2, e3, a1, a2⟩, hb⟩
    have hr := p2.below hb p2.lt
    have hbw := hbw5.trans (hb.mono hbw5.size)
    have hlt5 := p2.lt
    have s0 := hr.cell 0
    have s1 := hr.cell 1
    have s2 := hr.frozen 0
    have s3 := hr.frozen 1
    have hres := Lib.hid ((hr.set 0 (.slice (some ⟨gx, 0, none⟩) (reloc (mvSwap a) true X.length X).length (reloc (mvSwap a) true X.length X).length)).set 1 (.slice (some ⟨go, 0, none⟩) (reloc (mvSwap a) false X.length O).length (reloc (mvSwap a) false X.length O).length))
    go_wp2_with fail
    refine bodyPost_ret (v := .tuple #[.agg #[.slice (some ⟨gx, 0, none⟩) (reloc (mvSwap a) true X.length X).length (reloc (mvSwap a) true X.length X).length, .slice (some ⟨go, 0, none⟩) (reloc (mvSwap a) false X.length O).length (reloc (mvSwap a) false X.length O).length], .int .i64 0]) (results_ct Tryz.results74 _ _ (w.heap.size + 2) 24 _ _ rfl hres.out Tryz.underlying24 rfl info_grid) rfl ?_
    rw [hfin.out]
    exact GRes.ok (bset2 (r := w.heap.size + 2) hbw (by omega)) ⟨gx, go, rfl, e1, by omega, by omega, a1.far2 (r := w.heap.size + 2) (by omega), a2.far2 (r := w.heap.size + 2) (by omega)⟩
set_option maxHeartbeats 1000000 in
theorem columns_des (vx vo : Value) (X O : List Int) (rows : Bool) (a v : Nat) (w : World) (hX : Ints w vx X) (hO : Ints w vo O) (hl : X.length ≤ 40) (hl2 : 2 ≤ X.length) (hlen : X.length = O.length) (rX : Rows X.length X) (rO : Rows X.length O) (ha : a < X.length) :
    Calls Tryz.prog 74 #[.agg #[vx, vo], .agg #[.int .i64 3, .bool rows, .int .i64 (a : Int), .int .i64 (v : Int)]] w (GRes w.heap.size w (desM X O a)) := by
  have ho0 : a < O.length := by omega
  have HL := Lib.hid hlen
  clear hlen
  have hX0 := hX
  have hO0 := hO
  obtain ⟨A, c, rfl, hc, hh⟩ := hX
  obtain ⟨A', c', rfl, hc', hh'⟩ := hO
  clear hh hh'
  go_enter Tryz.func74, Tryz.ntmps74
  go_wp2_with fail
  have hW : Arr ((((w.alloc (.cells #[.slice A X.length c, .slice A' O.length c'] 24)).alloc (.cells #[.int .i64 3, .bool rows, .int .i64 (a : Int), .int .i64 (v : Int)] 94)).alloc (.cells #[.slice none 0 0, .slice none 0 0] 24)).alloc (.cells #[.int .i64 (X.length : Int)] 3)) w.heap.size 24 [.slice A X.length c, .slice A' O.length c'] ∧ Arr ((((w.alloc (.cells #[.slice A X.length c, .slice A' O.length c'] 24)).alloc (.cells #[.int .i64 3, .bool rows, .int .i64 (a : Int), .int .i64 (v : Int)] 94)).alloc (.cells #[.slice none 0 0, .slice none 0 0] 24)).alloc (.cells #[.int .i64 (X.length : Int)] 3)) (w.heap.size + 1) 94 [.int .i64 3, .bool rows, .int .i64 (a : Int), .int .i64 (v : Int)] ∧ Arr ((((w.alloc (.cells #[.slice A X.length c, .slice A' O.length c'] 24)).alloc (.cells #[.int .i64 3, .bool rows, .int .i64 (a : Int), .int .i64 (v : Int)] 94)).alloc (.cells #[.slice none 0 0, .slice none 0 0] 24)).alloc (.cells #[.int .i64 (X.length : Int)] 3)) (w.heap.size + 2) 24 [.slice none 0 0, .slice none 0 0] ∧
      Arr ((((w.alloc (.cells #[.slice A X.length c, .slice A' O.length c'] 24)).alloc (.cells #[.int .i64 3, .bool rows, .int .i64 (a : Int), .int .i64 (v : Int)] 94)).alloc (.cells #[.slice none 0 0, .slice none 0 0] 24)).alloc (.cells #[.int .i64 (X.length : Int)] 3)) (w.heap.size + 3) 3 [.int .i64 (X.length : Int)] ∧ Below w.heap.size w ((((w.alloc (.cells #[.slice A X.length c, .slice A' O.length c'] 24)).alloc (.cells #[.int .i64 3, .bool rows, .int .i64 (a : Int), .int .i64 (v : Int)] 94)).alloc (.cells #[.slice none 0 0, .slice none 0 0] 24)).alloc (.cells #[.int .i64 (X.length : Int)] 3)) ∧ ((((w.alloc (.cells #[.slice A X.length c, .slice A' O.length c'] 24)).alloc (.cells #[.int .i64 3, .bool rows, .int .i64 (a : Int), .int .i64 (v : Int)] 94)).alloc (.cells #[.slice none 0 0, .slice none 0 0] 24)).alloc (.cells #[.int .i64 (X.length : Int)] 3)).heap.size = w.heap.size + 4 :=
    ⟨(((Arr.new _ _ [_, _]).alloc _).alloc _).alloc _, ((Arr.newAt (w.alloc _) _ [_, _, _, _] _ (by simp)).alloc _).alloc _, (Arr.newAt ((w.alloc _).alloc _) _ [_, _] _ (by simp)).alloc _, Arr.newAt (((w.alloc _).alloc _).alloc _) _ [_] _ (by simp),
      ((((Below.refl _ _).alloc (Nat.le_refl _) _).alloc (by simp) _).alloc (by simp <;> omega) _).alloc (by simp <;> omega) _, by simp⟩
  generalize ((((w.alloc (.cells #[.slice A X.length c, .slice A' O.length c'] 24)).alloc (.cells #[.int .i64 3, .bool rows, .int .i64 (a : Int), .int .i64 (v : Int)] 94)).alloc (.cells #[.slice none 0 0, .slice none 0 0] 24)).alloc (.cells #[.int .i64 (X.length : Int)] 3)) = w4 at hW ⊢
  obtain ⟨q0, q1, q2, q3, hb4, hs4⟩ := hW
  refine (destabilize_any _ _ X O a _ (hX0.below hb4) (hO0.below hb4) (by omega) HL.out ha ho0 rX rO).mono ?_
  rintro e w1 ⟨hb, hres⟩
  have hgx : X.getD a 0 = X[a] := by simp [List.getD_eq_getElem?_getD, ha]
  have hgo : O.getD a 0 = O[a] := by simp [List.getD_eq_getElem?_getD, ho0]
  have hr := q2.below hb q2.lt
  have hbw := hb4.trans (hb.mono hb4.size)
  have hlt5 := q2.lt
  have s0 := hr.cell 0
  have s1 := hr.cell 1
  have s2 := hr.frozen 0
  have s3 := hr.frozen 1
  by_cases hd : desOk X O a X[a] O[a] = true
  · rw [if_pos hd] at hres
    have hfin := Lib.hid (show desM X O a = (0, (reloc (mvDel (minG X[a] O[a]) a) true (X.length - 1) X), (reloc (mvDel (minG X[a] O[a]) a) false (X.length - 1) O)) by simp only [desM, hgx, hgo]; rw [if_pos hd])
    clear hgx hgo hd
    obtain ⟨v1, rfl, gx, go, rfl, e1, e2, e3, a1, a2⟩ := hres
    have hres := Lib.hid ((hr.set 0 (.slice (some ⟨gx, 0, none⟩) (reloc (mvDel (minG X[a] O[a]) a) true (X.length - 1) X).length (reloc (mvDel (minG X[a] O[a]) a) true (X.length - 1) X).length)).set 1 (.slice (some ⟨go, 0, none⟩) (reloc (mvDel (minG X[a] O[a]) a) false (X.length - 1) O).length (reloc (mvDel (minG X[a] O[a]) a) false (X.length - 1) O).length))
    go_wp2_with fail
    refine bodyPost_ret (v := .tuple #[.agg #[.slice (some ⟨gx, 0, none⟩) (reloc (mvDel (minG X[a] O[a]) a) true (X.length - 1) X).length (reloc (mvDel (minG X[a] O[a]) a) true (X.length - 1) X).length, .slice (some ⟨go, 0, none⟩) (reloc (mvDel (minG X[a] O[a]) a) false (X.length - 1) O).length (reloc (mvDel (minG X[a] O[a]) a) false (X.length - 1) O).length], .int .i64 0]) (results_ct Tryz.results74 _ _ (w.heap.size + 2) 24 _ _ rfl hres.out Tryz.underlying24 rfl info_grid) rfl ?_
    rw [hfin.out]
    exact GRes.ok (bset2 (r := w.heap.size + 2) hbw (by omega)) ⟨gx, go, rfl, e1, by omega, by omega, a1.far2 (r := w.heap.size + 2) (by omega), a2.far2 (r := w.heap.size + 2) (by omega)⟩
  · rw [if_neg hd] at hres
    have hfin := Lib.hid (show desM X O a = (6, [], []) by simp only [desM, hgx, hgo]; rw [if_neg hd])
    clear hgx hgo hd
    subst hres
    have hzr := Lib.hid ((hr.set 0 (.slice none 0 0)).set 1 (.slice none 0 0))
    go_wp2_with fail
    refine bodyPost_ret (v := .tuple #[.agg #[.slice none 0 0, .slice none 0 0], .int .i64 6]) (results_ct Tryz.results74 _ _ (w.heap.size + 2) 24 _ _ rfl hzr.out Tryz.underlying24 rfl info_grid) rfl ?_
    rw [hfin.out]
    exact GRes.err (by decide) (bset2 (r := w.heap.size + 2) hbw (by omega))
set_option maxHeartbeats 1000000 in
theorem columns_sta (vx vo : Value) (X O : List Int) (rows : Bool) (a v : Nat) (w : World) (hX : Ints w vx X) (hO : Ints w vo O) (hl : X.length ≤ 40) (hl2 : 2 ≤ X.length) (hlen : X.length = O.length) (rX : Rows X.length X) (rO : Rows X.length O) (ha : a ≤ X.length) (hv : v < 2 * X.length) :
    Calls Tryz.prog 74 #[.agg #[vx, vo], .agg #[.int .i64 4, .bool rows, .int .i64 (a : Int), .int .i64 (v : Int)]] w (GRes w.heap.size w (staM X O a v)) := by
  by_cases h40 : X.length = 40
  · have hd40 : ((X.length : Int) == 40) = true := by simp [h40]
    have hfin := Lib.hid (show staM X O a v = (5, [], []) by simp only [staM]; rw [if_pos h40])
    clear h40
    have HL := Lib.hid hlen
    clear hlen
    have hX0 := hX
    have hO0 := hO
    obtain ⟨A, c, rfl, hc, hh⟩ := hX
    obtain ⟨A', c', rfl, hc', hh'⟩ := hO
    clear hh hh'
    go_enter Tryz.func74, Tryz.ntmps74
    go_wp2_with fail
    refine bodyPost_ret (v := .tuple #[.agg #[.slice none 0 0, .slice none 0 0], .int .i64 5]) (by simp [results, Tryz.results74, go_sem]) rfl ?_
    rw [hfin.out]
    exact GRes.err (by decide) (by repeat (first | exact Below.refl _ _ | refine Below.alloc ?_ (by simp <;> omega) _))
  · have hd40 : ((X.length : Int) == 40) = false := by simp; omega
    have hfin := Lib.hid (show staM X O a v = (0, staX X a (v / 2) (decide (v % 2 = 0)), staO X.length O a (v / 2) (decide (v % 2 = 0))) by simp only [staM]; rw [if_neg h40])
    clear h40
    have HL := Lib.hid hlen
    clear hlen
    have hX0 := hX
    have hO0 := hO
    obtain ⟨A, c, rfl, hc, hh⟩ := hX
    obtain ⟨A', c', rfl, hc', hh'⟩ := hO
    clear hh hh'
    go_enter Tryz.func74, Tryz.ntmps74
    go_wp2_with fail
    have hW : Arr ((((w.alloc (.cells #[.slice A X.length c, .slice A' O.length c'] 24)).alloc (.cells #[.int .i64 4, .bool rows, .int .i64 (a : Int), .int .i64 (v : Int)] 94)).alloc (.cells #[.slice none 0 0, .slice none 0 0] 24)).alloc (.cells #[.int .i64 (X.length : Int)] 3)) w.heap.size 24 [.slice A X.length c, .slice A' O.length c'] ∧ Arr ((((w.alloc (.cells #[.slice A X.length c, .slice A' O.length c'] 24)).alloc (.cells #[.int .i64 4, .bool rows, .int .i64 (a : Int), .int .i64 (v : Int)] 94)).alloc (.cells #[.slice none 0 0, .slice none 0 0] 24)).alloc (.cells #[.int .i64 (X.length : Int)] 3)) (w.heap.size + 1) 94 [.int .i64 4, .bool rows, .int .i64 (a : Int), .int .i64 (v : Int)] ∧ Arr ((((w.alloc (.cells #[.slice A X.length c, .slice A' O.length c'] 24)).alloc (.cells #[.int .i64 4, .bool rows, .int .i64 (a : Int), .int .i64 (v : Int)] 94)).alloc (.cells #[.slice none 0 0, .slice none 0 0] 24)).alloc (.cells #[.int .i64 (X.length : Int)] 3)) (w.heap.size + 2) 24 [.slice none 0 0, .slice none 0 0] ∧
        Arr ((((w.alloc (.cells #[.slice A X.length c, .slice A' O.length c'] 24)).alloc (.cells #[.int .i64 4, .bool rows, .int .i64 (a : Int), .int .i64 (v : Int)] 94)).alloc (.cells #[.slice none 0 0, .slice none 0 0] 24)).alloc (.cells #[.int .i64 (X.length : Int)] 3)) (w.heap.size + 3) 3 [.int .i64 (X.length : Int)] ∧ Below w.heap.size w ((((w.alloc (.cells #[.slice A X.length c, .slice A' O.length c'] 24)).alloc (.cells #[.int .i64 4, .bool rows, .int .i64 (a : Int), .int .i64 (v : Int)] 94)).alloc (.cells #[.slice none 0 0, .slice none 0 0] 24)).alloc (.cells #[.int .i64 (X.length : Int)] 3)) ∧ ((((w.alloc (.cells #[.slice A X.length c, .slice A' O.length c'] 24)).alloc (.cells #[.int .i64 4, .bool rows, .int .i64 (a : Int), .int .i64 (v : Int)] 94)).alloc (.cells #[.slice none 0 0, .slice none 0 0] 24)).alloc (.cells #[.int .i64 (X.length : Int)] 3)).heap.size = w.heap.size + 4 :=
      ⟨(((Arr.new _ _ [_, _]).alloc _).alloc _).alloc _, ((Arr.newAt (w.alloc _) _ [_, _, _, _] _ (by simp)).alloc _).alloc _, (Arr.newAt ((w.alloc _).alloc _) _ [_, _] _ (by simp)).alloc _, Arr.newAt (((w.alloc _).alloc _).alloc _) _ [_] _ (by simp),
        ((((Below.refl _ _).alloc (Nat.le_refl _) _).alloc (by simp) _).alloc (by simp <;> omega) _).alloc (by simp <;> omega) _, by simp⟩
    generalize ((((w.alloc (.cells #[.slice A X.length c, .slice A' O.length c'] 24)).alloc (.cells #[.int .i64 4, .bool rows, .int .i64 (a : Int), .int .i64 (v : Int)] 94)).alloc (.cells #[.slice none 0 0, .slice none 0 0] 24)).alloc (.cells #[.int .i64 (X.length : Int)] 3)) = w4 at hW ⊢
    obtain ⟨q0, q1, q2, q3, hb4, hs4⟩ := hW
    have ev : ((v : Int) / 2) = ((v / 2 : Nat) : Int) := by omega
    have eb : ((v : Int) % 2 == 0) = decide (v % 2 = 0) := by rw [Bool.eq_iff_iff]; simp; omega
    rw [ev, eb]
    clear ev eb
    refine (stabilize_any _ _ X O a (v / 2) (decide (v % 2 = 0)) _ (hX0.below hb4) (hO0.below hb4) (by omega) HL.out ha (by omega) rX rO).mono ?_
    generalize decide (v % 2 = 0) = st at *
    generalize v / 2 = rr at *
    rintro e w1 ⟨v1, rfl, ⟨gx, go, rfl, e1, e2, e3, a1, a2⟩, hb⟩
    have hr := q2.below hb q2.lt
    have hbw := hb4.trans (hb.mono hb4.size)
    have hlt5 := q2.lt
    have s0 := hr.cell 0
    have s1 := hr.cell 1
    have s2 := hr.frozen 0
    have s3 := hr.frozen 1
    have hres := Lib.hid ((hr.set 0 (.slice (some ⟨gx, 0, none⟩) (staX X a rr st).length (staX X a rr st).length)).set 1 (.slice (some ⟨go, 0, none⟩) (staO X.length O a rr st).length (staO X.length O a rr st).length))
    go_wp2_with fail
    refine bodyPost_ret (v := .tuple #[.agg #[.slice (some ⟨gx, 0, none⟩) (staX X a rr st).length (staX X a rr st).length, .slice (some ⟨go, 0, none⟩) (staO X.length O a rr st).length (staO X.length O a rr st).length], .int .i64 0]) (results_ct Tryz.results74 _ _ (w.heap.size + 2) 24 _ _ rfl hres.out Tryz.underlying24 rfl info_grid) rfl ?_
    rw [hfin.out]
    exact GRes.ok (bset2 (r := w.heap.size + 2) hbw (by omega)) ⟨gx, go, rfl, e1, by omega, by omega, a1.far2 (r := w.heap.size + 2) (by omega), a2.far2 (r := w.heap.size + 2) (by omega)⟩
theorem columns_any (vx vo : Value) (X O : List Int) (rows : Bool) (a v : Nat) (w : World) (hX : Ints w vx X) (hO : Ints w vo O) (hl : X.length ≤ 40) (hl2 : 2 ≤ X.length) (hlen : X.length = O.length) (rX : Rows X.length X) (rO : Rows X.length O) (k : Int) (hk : 1 ≤ k ∧ k ≤ 4) (ha : a < limAt k X.length) (hv : v < limVar k X.length) :
    Calls Tryz.prog 74 #[.agg #[vx, vo], .agg #[.int .i64 k, .bool rows, .int .i64 (a : Int), .int .i64 (v : Int)]] w (GRes w.heap.size w (colsM X O k a v)) := by
  obtain ⟨h1, h4⟩ := hk
  by_cases k1 : k = 1
  · subst k1
    exact columns_rot vx vo X O rows a v w hX hO hl hl2 hlen rX rO
  by_cases k2 : k = 2
  · subst k2
    have : limAt 2 X.length = X.length - 1 := rfl
    exact columns_swap vx vo X O rows a v w hX hO hl hl2 hlen rX rO (by omega)
  by_cases k3 : k = 3
  · subst k3
    have : limAt 3 X.length = X.length := rfl
    exact columns_des vx vo X O rows a v w hX hO hl hl2 hlen rX rO (by omega)
  obtain rfl : k = 4 := by omega
  have e1 : limAt 4 X.length = X.length + 1 := rfl
  have e2 : limVar 4 X.length = 2 * X.length := rfl
  exact columns_sta vx vo X O rows a v w hX hO hl hl2 hlen rX rO (by omega) (by omega)
end Go.Proofs.YteliflcbegcdlaaGreatDoor

namespace Go.Proofs.YteliflcbegcdlaaGreatDoor
set_option linter.unusedVariables false
open Go.RowKit
theorem relStep_rows {n : Nat} {mv : Int → Int → Bool → Int × Int} {b : Bool} {i : Nat} {x : Int} {acc : List Int} (h : Rows n acc) (hx : 0 ≤ (mv i x b).2 ∧ (mv i x b).2 < n) : Rows n (relStep mv b i x acc) := by
  unfold relStep
  split
  · intro y hy
    rcases List.mem_or_eq_of_mem_set hy with h1 | h1
    · exact h y h1
    · rw [h1]; exact hx
  · exact h
theorem relTo_rows {n : Nat} {mv : Int → Int → Bool → Int × Int} {b : Bool} (xs : List Int) : ∀ (i : Nat) (acc : List Int), Rows n acc → (∀ k (h : k < xs.length), 0 ≤ (mv (i + k : Nat) xs[k] b).2 ∧ (mv (i + k : Nat) xs[k] b).2 < n) → Rows n (relTo mv b i xs acc) := by
  induction xs with
  | nil => intro i acc h _; exact h
  | cons x xs ih =>
    intro i acc h hx
    rw [relTo]
    refine ih (i + 1) _ (relStep_rows h (by have := hx 0 (by simp); simpa using this)) (fun k hk => ?_)
    have := hx (k + 1) (by simpa using hk)
    rw [show i + 1 + k = i + (k + 1) from by omega]
    simpa using this
theorem reloc_rows {m n : Nat} {mv : Int → Int → Bool → Int × Int} {b : Bool} {xs : List Int} (hm : 0 < m) (hx : ∀ k (h : k < xs.length), 0 ≤ (mv k xs[k] b).2 ∧ (mv k xs[k] b).2 < m) : Rows m (reloc mv b n xs) := by
  refine relTo_rows xs 0 _ (fun y hy => ?_) (fun k hk => by have := hx k hk; simpa using this)
  have := List.eq_of_mem_replicate hy
  omega
theorem reloc_length (mv : Int → Int → Bool → Int × Int) (b : Bool) (n : Nat) (xs : List Int) : (reloc mv b n xs).length = n := by simp [reloc, relTo_length]
theorem Rows.set {n : Nat} {l : List Int} (h : Rows n l) (i : Nat) {x : Int} (hx : 0 ≤ x ∧ x < n) : Rows n (l.set i x) := by
  intro y hy
  rcases List.mem_or_eq_of_mem_set hy with h1 | h1
  · exact h y h1
  · rw [h1]; exact hx
theorem getD_rows {n : Nat} {l : List Int} (h : Rows n l) {a : Nat} (ha : a < l.length) : 0 ≤ l.getD a 0 ∧ l.getD a 0 < n := by
  have : l.getD a 0 = l[a] := by simp [List.getD_eq_getElem?_getD, ha]
  rw [this]; exact h.get ha
/-- a move of columns that goes through gives lists of one length, with their rows in range -/
theorem colsM_rows {X O : List Int} {k : Int} {a v : Nat} (hk : 1 ≤ k ∧ k ≤ 4) (ha : a < limAt k X.length) (hv : v < limVar k X.length) (hl : 2 ≤ X.length) (hlen : X.length = O.length) (rX : Rows X.length X) (rO : Rows X.length O)
    (h0 : (colsM X O k a v).1 = 0) : ∃ m, (colsM X O k a v).2.1.length = m ∧ (colsM X O k a v).2.2.length = m ∧ 1 ≤ m ∧ m ≤ X.length + 1 ∧ Rows m (colsM X O k a v).2.1 ∧ Rows m (colsM X O k a v).2.2 := by
  obtain ⟨h1, h4⟩ := hk
  unfold colsM at h0 ⊢
  by_cases k1 : k = 1
  · simp only [if_pos k1]
    refine ⟨X.length, reloc_length _ _ _ _, reloc_length _ _ _ _, by omega, by omega, reloc_rows (by omega) (fun k hk => rX.get hk), reloc_rows (by omega) (fun k hk => rO.get hk)⟩
  simp only [if_neg k1] at h0 ⊢
  by_cases k2 : k = 2
  · simp only [if_pos k2] at h0 ⊢
    unfold swapM at h0 ⊢
    split at h0
    · rename_i hc
      simp only [if_pos hc]
      exact ⟨X.length, reloc_length _ _ _ _, reloc_length _ _ _ _, by omega, by omega, reloc_rows (by omega) (fun k hk => rX.get hk), reloc_rows (by omega) (fun k hk => rO.get hk)⟩
    · simp at h0
  simp only [if_neg k2] at h0 ⊢
  by_cases k3 : k = 3
  · simp only [if_pos k3] at h0 ⊢
    have ha' : a < X.length := by rw [k3] at ha; simp only [limAt] at ha; simpa using ha
    unfold desM at h0 ⊢
    split at h0
    · rename_i hc
      simp only [if_pos hc]
      have gx := getD_rows rX ha'
      have go := getD_rows rO (by omega : a < O.length)
      generalize X.getD a 0 = x at *
      generalize O.getD a 0 = o at *
      have hd : 3 ≤ X.length ∧ maxG x o = minG x o + 1 := by
        simp only [desOk, Bool.and_eq_true, decide_eq_true_eq] at hc
        exact ⟨hc.1.1, hc.1.2⟩
      have hlow : minG x o + 1 < X.length := by rw [← hd.2]; unfold maxG; split <;> omega
      have hlow0 : 0 ≤ minG x o := by unfold minG; split <;> omega
      refine ⟨X.length - 1, reloc_length _ _ _ _, reloc_length _ _ _ _, by omega, by omega, reloc_rows (by omega) (fun k hk => ?_), reloc_rows (by omega) (fun k hk => ?_)⟩
      · have := rX.get hk
        simp only [mvDel]; split <;> omega
      · have := rO.get hk
        simp only [mvDel]; split <;> omega
    · simp at h0
  simp only [if_neg k3] at h0 ⊢
  have k4 : k = 4 := by omega
  subst k4
  have ha' : a < X.length + 1 := by simp only [limAt] at ha; simp at ha; omega
  have hv' : v < 2 * X.length := by simp only [limVar] at hv; simp at hv; omega
  unfold staM at h0 ⊢
  split at h0
  · simp at h0
  · rename_i hc
    simp only [if_neg hc]
    generalize decide (v % 2 = 0) = st
    have hr : v / 2 < X.length := by omega
    generalize v / 2 = r at *
    refine ⟨X.length + 1, by simp [staX, reloc_length], by simp [staO, reloc_length], by omega, by omega, Rows.set (reloc_rows (by omega) (fun k hk => ?_)) _ ?_, Rows.set (reloc_rows (by omega) (fun k hk => ?_)) _ ?_⟩
    · have := rX.get hk
      simp only [mvAdd]; split <;> omega
    · split <;> omega
    · have := rO.get hk
      simp only [mvAdd]; split <;> omega
    · split <;> omega
theorem permFrom_rows {n : Nat} : ∀ (l s : List Int), permFrom n s l = true → Rows n l := by
  intro l
  induction l with
  | nil => intro s _ x hx; simp at hx
  | cons y ys ih =>
    intro s h x hx
    simp only [permFrom, Bool.and_eq_true, decide_eq_true_eq] at h
    rcases List.mem_cons.1 hx with rfl | hx
    · exact ⟨h.1.1.1, h.1.1.2⟩
    · exact ih _ h.2 x hx
theorem validB_facts {X O : List Int} (h : validB X O = true) : 2 ≤ X.length ∧ X.length ≤ 40 ∧ X.length = O.length ∧ Rows X.length X ∧ Rows X.length O := by
  simp only [validB, Bool.and_eq_true, decide_eq_true_eq, permB] at h
  obtain ⟨⟨⟨⟨⟨h1, h2⟩, h3⟩, _⟩, h5⟩, h6⟩ := h
  exact ⟨h1, h2, h3.symm, permFrom_rows _ _ h5, by rw [← h3]; exact permFrom_rows _ _ h6⟩
end Go.Proofs.YteliflcbegcdlaaGreatDoor

namespace Go.Proofs.YteliflcbegcdlaaGreatDoor
open Go.RowKit
set_option linter.unusedVariables false
/-- the transposed list -/
def tr (l : List Int) : List Int := reloc mvT true l.length l
def applyM (X O : List Int) (k : Int) (rows : Bool) (a v : Int) : Int × List Int × List Int :=
  if validB X O = false then (1, [], [])
  else if limAt k X.length = 0 then (11, [], [])
  else if a < 0 ∨ limAt k X.length ≤ a ∨ v < 0 ∨ limVar k X.length ≤ v then (2, [], [])
  else if rows = false then colsM X O k a.toNat v.toNat
  else if (colsM (tr X) (tr O) k a.toNat v.toNat).1 = 0 then (0, tr (colsM (tr X) (tr O) k a.toNat v.toNat).2.1, tr (colsM (tr X) (tr O) k a.toNat v.toNat).2.2)
  else ((colsM (tr X) (tr O) k a.toNat v.toNat).1, [], [])
theorem limAt_zero {k n : Int} (hn : 2 ≤ n) : limAt k n = 0 ↔ ¬ (1 ≤ k ∧ k ≤ 4) := by
  unfold limAt
  repeat' split
  all_goals omega
set_option maxHeartbeats 1000000 in
theorem apply_invalid (vx vo : Value) (X O : List Int) (k : Int) (rows : Bool) (a v : Int) (w : World) (hX : Ints w vx X) (hO : Ints w vo O) (hl : X.length ≤ 1000) (hl' : O.length ≤ 1000) (hv : validB X O = false) :
    Calls Tryz.prog 50 #[.agg #[vx, vo], .agg #[.int .i64 k, .bool rows, .int .i64 a, .int .i64 v]] w (GRes w.heap.size w (applyM X O k rows a v)) := by
  have hfin := Lib.hid (show applyM X O k rows a v = (1, [], []) by simp only [applyM]; rw [if_pos hv])
  have hX0 := hX
  have hO0 := hO
  obtain ⟨A, c, rfl, hc, hh⟩ := hX
  obtain ⟨A', c', rfl, hc', hh'⟩ := hO
  clear hh hh'
  go_enter Tryz.func50, Tryz.ntmps50
  go_wp2_with fail
  have hW : Arr (((w.alloc (.cells #[.slice A X.length c, .slice A' O.length c'] 24)).alloc (.cells #[.int .i64 k, .bool rows, .int .i64 a, .int .i64 v] 94)).alloc (.cells #[.slice none 0 0, .slice none 0 0] 24)) w.heap.size 24 [.slice A X.length c, .slice A' O.length c'] ∧ Arr (((w.alloc (.cells #[.slice A X.length c, .slice A' O.length c'] 24)).alloc (.cells #[.int .i64 k, .bool rows, .int .i64 a, .int .i64 v] 94)).alloc (.cells #[.slice none 0 0, .slice none 0 0] 24)) (w.heap.size + 1) 94 [.int .i64 k, .bool rows, .int .i64 a, .int .i64 v] ∧ Arr (((w.alloc (.cells #[.slice A X.length c, .slice A' O.length c'] 24)).alloc (.cells #[.int .i64 k, .bool rows, .int .i64 a, .int .i64 v] 94)).alloc (.cells #[.slice none 0 0, .slice none 0 0] 24)) (w.heap.size + 2) 24 [.slice none 0 0, .slice none 0 0] ∧ Below w.heap.size w (((w.alloc (.cells #[.slice A X.length c, .slice A' O.length c'] 24)).alloc (.cells #[.int .i64 k, .bool rows, .int .i64 a, .int .i64 v] 94)).alloc (.cells #[.slice none 0 0, .slice none 0 0] 24)) ∧ (((w.alloc (.cells #[.slice A X.length c, .slice A' O.length c'] 24)).alloc (.cells #[.int .i64 k, .bool rows, .int .i64 a, .int .i64 v] 94)).alloc (.cells #[.slice none 0 0, .slice none 0 0] 24)).heap.size = w.heap.size + 3 :=
    ⟨((Arr.new _ _ [_, _]).alloc _).alloc _, (Arr.newAt (w.alloc _) _ [_, _, _, _] _ (by simp)).alloc _, Arr.newAt ((w.alloc _).alloc _) _ [_, _] _ (by simp),
      (((Below.refl _ _).alloc (Nat.le_refl _) _).alloc (by simp) _).alloc (by simp <;> omega) _, by simp⟩
  generalize (((w.alloc (.cells #[.slice A X.length c, .slice A' O.length c'] 24)).alloc (.cells #[.int .i64 k, .bool rows, .int .i64 a, .int .i64 v] 94)).alloc (.cells #[.slice none 0 0, .slice none 0 0] 24)) = w4 at hW ⊢
  obtain ⟨q0, q1, q2, hb4, hs4⟩ := hW
  refine (valid_any _ _ X O _ (hX0.below hb4) (hO0.below hb4) hl hl').mono ?_
  rintro e w5 ⟨rfl, hb5⟩
  have hbw5 := hb4.trans (hb5.mono hb4.size)
  have p0 := q0.below hb5 q0.lt
  have p1 := q1.below hb5 q1.lt
  have p2 := q2.below hb5 q2.lt
  have hsz := hb5.size
  rw [hs4] at hsz
  clear q0 q1 q2 hb5 hb4 hs4
  have y0 := p0.cell 0
  have y1 := p0.cell 1
  have z0 := p1.cell 0
  have z1 := p1.cell 1
  have z2 := p1.cell 2
  have z3 := p1.cell 3
  have y2 := p2.cell 0
  have y3 := p2.cell 1
  have y4 := p2.frozen 0
  have y5 := p2.frozen 1
  rw [hv]
  have hzr := Lib.hid ((p2.set 0 (.slice none 0 0)).set 1 (.slice none 0 0))
  go_wp2_with fail
  refine bodyPost_ret (v := .tuple #[.agg #[.slice none 0 0, .slice none 0 0], .int .i64 1]) (results_ct Tryz.results50 _ _ (w.heap.size + 2) 24 _ _ rfl hzr.out Tryz.underlying24 rfl info_grid) rfl ?_
  rw [hfin.out]
  exact GRes.err (by decide) (bset2 (r := w.heap.size + 2) hbw5 (by omega))
set_option maxHeartbeats 1000000 in
theorem apply_kind (vx vo : Value) (X O : List Int) (k : Int) (rows : Bool) (a v : Int) (w : World) (hX : Ints w vx X) (hO : Ints w vo O) (hl : X.length ≤ 1000) (hl' : O.length ≤ 1000) (hv : validB X O = true) (hk : limAt k X.length = 0) :
    Calls Tryz.prog 50 #[.agg #[vx, vo], .agg #[.int .i64 k, .bool rows, .int .i64 a, .int .i64 v]] w (GRes w.heap.size w (applyM X O k rows a v)) := by
  have hfin := Lib.hid (show applyM X O k rows a v = (11, [], []) by simp only [applyM]; rw [if_neg (by simp [hv]), if_pos hk])
  have HK := Lib.hid hk
  clear hk
  have hX0 := hX
  have hO0 := hO
  obtain ⟨A, c, rfl, hc, hh⟩ := hX
  obtain ⟨A', c', rfl, hc', hh'⟩ := hO
  clear hh hh'
  go_enter Tryz.func50, Tryz.ntmps50
  go_wp2_with fail
  have hW : Arr (((w.alloc (.cells #[.slice A X.length c, .slice A' O.length c'] 24)).alloc (.cells #[.int .i64 k, .bool rows, .int .i64 a, .int .i64 v] 94)).alloc (.cells #[.slice none 0 0, .slice none 0 0] 24)) w.heap.size 24 [.slice A X.length c, .slice A' O.length c'] ∧ Arr (((w.alloc (.cells #[.slice A X.length c, .slice A' O.length c'] 24)).alloc (.cells #[.int .i64 k, .bool rows, .int .i64 a, .int .i64 v] 94)).alloc (.cells #[.slice none 0 0, .slice none 0 0] 24)) (w.heap.size + 1) 94 [.int .i64 k, .bool rows, .int .i64 a, .int .i64 v] ∧ Arr (((w.alloc (.cells #[.slice A X.length c, .slice A' O.length c'] 24)).alloc (.cells #[.int .i64 k, .bool rows, .int .i64 a, .int .i64 v] 94)).alloc (.cells #[.slice none 0 0, .slice none 0 0] 24)) (w.heap.size + 2) 24 [.slice none 0 0, .slice none 0 0] ∧ Below w.heap.size w (((w.alloc (.cells #[.slice A X.length c, .slice A' O.length c'] 24)).alloc (.cells #[.int .i64 k, .bool rows, .int .i64 a, .int .i64 v] 94)).alloc (.cells #[.slice none 0 0, .slice none 0 0] 24)) ∧ (((w.alloc (.cells #[.slice A X.length c, .slice A' O.length c'] 24)).alloc (.cells #[.int .i64 k, .bool rows, .int .i64 a, .int .i64 v] 94)).alloc (.cells #[.slice none 0 0, .slice none 0 0] 24)).heap.size = w.heap.size + 3 :=
    ⟨((Arr.new _ _ [_, _]).alloc _).alloc _, (Arr.newAt (w.alloc _) _ [_, _, _, _] _ (by simp)).alloc _, Arr.newAt ((w.alloc _).alloc _) _ [_, _] _ (by simp),
      (((Below.refl _ _).alloc (Nat.le_refl _) _).alloc (by simp) _).alloc (by simp <;> omega) _, by simp⟩
  generalize (((w.alloc (.cells #[.slice A X.length c, .slice A' O.length c'] 24)).alloc (.cells #[.int .i64 k, .bool rows, .int .i64 a, .int .i64 v] 94)).alloc (.cells #[.slice none 0 0, .slice none 0 0] 24)) = w4 at hW ⊢
  obtain ⟨q0, q1, q2, hb4, hs4⟩ := hW
  refine (valid_any _ _ X O _ (hX0.below hb4) (hO0.below hb4) hl hl').mono ?_
  rintro e w5 ⟨rfl, hb5⟩
  have hbw5 := hb4.trans (hb5.mono hb4.size)
  have p0 := q0.below hb5 q0.lt
  have p1 := q1.below hb5 q1.lt
  have p2 := q2.below hb5 q2.lt
  have hsz := hb5.size
  rw [hs4] at hsz
  clear q0 q1 q2 hb5 hb4 hs4
  have y0 := p0.cell 0
  have y1 := p0.cell 1
  have z0 := p1.cell 0
  have z1 := p1.cell 1
  have z2 := p1.cell 2
  have z3 := p1.cell 3
  have y2 := p2.cell 0
  have y3 := p2.cell 1
  have y4 := p2.frozen 0
  have y5 := p2.frozen 1
  rw [hv]
  have hzr := Lib.hid ((p2.set 0 (.slice none 0 0)).set 1 (.slice none 0 0))
  go_wp2_with fail
  refine (limits_any k X.length _ (by omega) (by have := (validB_facts hv).2.1; omega)).mono ?_
  rintro e w6 ⟨rfl, rfl⟩
  rw [HK.out]
  go_wp2_with fail
  refine bodyPost_ret (v := .tuple #[.agg #[.slice none 0 0, .slice none 0 0], .int .i64 11]) (results_ct Tryz.results50 _ _ (w.heap.size + 2) 24 _ _ rfl hzr.out Tryz.underlying24 rfl info_grid) rfl ?_
  rw [hfin.out]
  exact GRes.err (by decide) (bset2 (r := w.heap.size + 2) hbw5 (by omega))
set_option maxHeartbeats 1000000 in
theorem apply_range (vx vo : Value) (X O : List Int) (k : Int) (rows : Bool) (a v : Int) (w : World) (hX : Ints w vx X) (hO : Ints w vo O) (hl : X.length ≤ 1000) (hl' : O.length ≤ 1000) (hv : validB X O = true) (hk : ¬ limAt k X.length = 0) (hr : a < 0 ∨ limAt k X.length ≤ a ∨ v < 0 ∨ limVar k X.length ≤ v) :
    Calls Tryz.prog 50 #[.agg #[vx, vo], .agg #[.int .i64 k, .bool rows, .int .i64 a, .int .i64 v]] w (GRes w.heap.size w (applyM X O k rows a v)) := by
  have hfin := Lib.hid (show applyM X O k rows a v = (2, [], []) by simp only [applyM]; rw [if_neg (by simp [hv]), if_neg hk, if_pos hr])
  have hd : (limAt k X.length == 0) = false := by simpa using hk
  clear hk
  have hX0 := hX
  have hO0 := hO
  obtain ⟨A, c, rfl, hc, hh⟩ := hX
  obtain ⟨A', c', rfl, hc', hh'⟩ := hO
  clear hh hh'
  go_enter Tryz.func50, Tryz.ntmps50
  go_wp2_with fail
  have hW : Arr (((w.alloc (.cells #[.slice A X.length c, .slice A' O.length c'] 24)).alloc (.cells #[.int .i64 k, .bool rows, .int .i64 a, .int .i64 v] 94)).alloc (.cells #[.slice none 0 0, .slice none 0 0] 24)) w.heap.size 24 [.slice A X.length c, .slice A' O.length c'] ∧ Arr (((w.alloc (.cells #[.slice A X.length c, .slice A' O.length c'] 24)).alloc (.cells #[.int .i64 k, .bool rows, .int .i64 a, .int .i64 v] 94)).alloc (.cells #[.slice none 0 0, .slice none 0 0] 24)) (w.heap.size + 1) 94 [.int .i64 k, .bool rows, .int .i64 a, .int .i64 v] ∧ Arr (((w.alloc (.cells #[.slice A X.length c, .slice A' O.length c'] 24)).alloc (.cells #[.int .i64 k, .bool rows, .int .i64 a, .int .i64 v] 94)).alloc (.cells #[.slice none 0 0, .slice none 0 0] 24)) (w.heap.size + 2) 24 [.slice none 0 0, .slice none 0 0] ∧ Below w.heap.size w (((w.alloc (.cells #[.slice A X.length c, .slice A' O.length c'] 24)).alloc (.cells #[.int .i64 k, .bool rows, .int .i64 a, .int .i64 v] 94)).alloc (.cells #[.slice none 0 0, .slice none 0 0] 24)) ∧ (((w.alloc (.cells #[.slice A X.length c, .slice A' O.length c'] 24)).alloc (.cells #[.int .i64 k, .bool rows, .int .i64 a, .int .i64 v] 94)).alloc (.cells #[.slice none 0 0, .slice none 0 0] 24)).heap.size = w.heap.size + 3 :=
    ⟨((Arr.new _ _ [_, _]).alloc _).alloc _, (Arr.newAt (w.alloc _) _ [_, _, _, _] _ (by simp)).alloc _, Arr.newAt ((w.alloc _).alloc _) _ [_, _] _ (by simp),
      (((Below.refl _ _).alloc (Nat.le_refl _) _).alloc (by simp) _).alloc (by simp <;> omega) _, by simp⟩
  generalize (((w.alloc (.cells #[.slice A X.length c, .slice A' O.length c'] 24)).alloc (.cells #[.int .i64 k, .bool rows, .int .i64 a, .int .i64 v] 94)).alloc (.cells #[.slice none 0 0, .slice none 0 0] 24)) = w4 at hW ⊢
  obtain ⟨q0, q1, q2, hb4, hs4⟩ := hW
  refine (valid_any _ _ X O _ (hX0.below hb4) (hO0.below hb4) hl hl').mono ?_
  rintro e w5 ⟨rfl, hb5⟩
  have hbw5 := hb4.trans (hb5.mono hb4.size)
  have p0 := q0.below hb5 q0.lt
  have p1 := q1.below hb5 q1.lt
  have p2 := q2.below hb5 q2.lt
  have hsz := hb5.size
  rw [hs4] at hsz
  clear q0 q1 q2 hb5 hb4 hs4
  have y0 := p0.cell 0
  have y1 := p0.cell 1
  have z0 := p1.cell 0
  have z1 := p1.cell 1
  have z2 := p1.cell 2
  have z3 := p1.cell 3
  have y2 := p2.cell 0
  have y3 := p2.cell 1
  have y4 := p2.frozen 0
  have y5 := p2.frozen 1
  rw [hv]
  have hzr := Lib.hid ((p2.set 0 (.slice none 0 0)).set 1 (.slice none 0 0))
  go_wp2_with fail
  refine (limits_any k X.length _ (by omega) (by have := (validB_facts hv).2.1; omega)).mono ?_
  rintro e w6 ⟨rfl, rfl⟩
  generalize limAt k X.length = la at *
  generalize limVar k X.length = lv at *
  by_cases t1 : a < 0
  · go_wp2_with fail
    refine bodyPost_ret (v := .tuple #[.agg #[.slice none 0 0, .slice none 0 0], .int .i64 2]) (results_ct Tryz.results50 _ _ (w.heap.size + 2) 24 _ _ rfl hzr.out Tryz.underlying24 rfl info_grid) rfl ?_
    rw [hfin.out]
    exact GRes.err (by decide) (bset2 (r := w.heap.size + 2) hbw5 (by omega))
  by_cases t2 : la ≤ a
  · have t1' : 0 ≤ a := by omega
    clear t1
    go_wp2_with fail
    refine bodyPost_ret (v := .tuple #[.agg #[.slice none 0 0, .slice none 0 0], .int .i64 2]) (results_ct Tryz.results50 _ _ (w.heap.size + 2) 24 _ _ rfl hzr.out Tryz.underlying24 rfl info_grid) rfl ?_
    rw [hfin.out]
    exact GRes.err (by decide) (bset2 (r := w.heap.size + 2) hbw5 (by omega))
  by_cases t3 : v < 0
  · have t1' : 0 ≤ a := by omega
    have t2' : a < la := by omega
    clear t1 t2
    go_wp2_with fail
    refine bodyPost_ret (v := .tuple #[.agg #[.slice none 0 0, .slice none 0 0], .int .i64 2]) (results_ct Tryz.results50 _ _ (w.heap.size + 2) 24 _ _ rfl hzr.out Tryz.underlying24 rfl info_grid) rfl ?_
    rw [hfin.out]
    exact GRes.err (by decide) (bset2 (r := w.heap.size + 2) hbw5 (by omega))
  have t1' : 0 ≤ a := by omega
  have t2' : a < la := by omega
  have t3' : 0 ≤ v := by omega
  have t4 : lv ≤ v := by omega
  have u1 : decide (a < 0) = false := by simp; omega
  have u2 : decide (la ≤ a) = false := by simp; omega
  have u3 : decide (v < 0) = false := by simp; omega
  have u4 : decide (lv ≤ v) = true := by simp; omega
  clear t1 t2 t3 hr
  go_wp2_with fail
  refine bodyPost_ret (v := .tuple #[.agg #[.slice none 0 0, .slice none 0 0], .int .i64 2]) (results_ct Tryz.results50 _ _ (w.heap.size + 2) 24 _ _ rfl hzr.out Tryz.underlying24 rfl info_grid) rfl ?_
  rw [hfin.out]
  exact GRes.err (by decide) (bset2 (r := w.heap.size + 2) hbw5 (by omega))
set_option maxHeartbeats 1000000 in
theorem apply_cols (vx vo : Value) (X O : List Int) (k : Int) (rows : Bool) (a v : Int) (w : World) (hX : Ints w vx X) (hO : Ints w vo O) (hl : X.length ≤ 1000) (hl' : O.length ≤ 1000) (hv : validB X O = true) (hk : ¬ limAt k X.length = 0) (hr : ¬ (a < 0 ∨ limAt k X.length ≤ a ∨ v < 0 ∨ limVar k X.length ≤ v)) :
    Calls Tryz.prog 50 #[.agg #[vx, vo], .agg #[.int .i64 k, .bool false, .int .i64 a, .int .i64 v]] w (GRes w.heap.size w (applyM X O k false a v)) := by
  have hfin := Lib.hid (show applyM X O k false a v = colsM X O k a.toNat v.toNat by simp only [applyM]; rw [if_neg (by simp [hv]), if_neg hk, if_neg hr, if_pos trivial])
  have hd : (limAt k X.length == 0) = false := by simpa using hk
  have vf := Lib.hid (validB_facts hv)
  have hkk := (not_congr (limAt_zero (k := k) (n := X.length) (by have := vf.out.1; omega))).1 hk
  have HK := Lib.hid (Decidable.not_not.1 hkk)
  have HR := Lib.hid hr
  have r1 : 0 ≤ a := by omega
  have r2 : a < limAt k X.length := by omega
  have r3 : 0 ≤ v := by omega
  have r4 : v < limVar k X.length := by omega
  clear hk hkk hr
  obtain ⟨a, rfl⟩ := Int.eq_ofNat_of_zero_le r1
  obtain ⟨v, rfl⟩ := Int.eq_ofNat_of_zero_le r3
  rw [Int.toNat_natCast, Int.toNat_natCast] at hfin
  have hX0 := hX
  have hO0 := hO
  obtain ⟨A, c, rfl, hc, hh⟩ := hX
  obtain ⟨A', c', rfl, hc', hh'⟩ := hO
  clear hh hh'
  go_enter Tryz.func50, Tryz.ntmps50
  go_wp2_with fail
  have hW : Arr (((w.alloc (.cells #[.slice A X.length c, .slice A' O.length c'] 24)).alloc (.cells #[.int .i64 k, .bool false, .int .i64 (a : Int), .int .i64 (v : Int)] 94)).alloc (.cells #[.slice none 0 0, .slice none 0 0] 24)) w.heap.size 24 [.slice A X.length c, .slice A' O.length c'] ∧ Arr (((w.alloc (.cells #[.slice A X.length c, .slice A' O.length c'] 24)).alloc (.cells #[.int .i64 k, .bool false, .int .i64 (a : Int), .int .i64 (v : Int)] 94)).alloc (.cells #[.slice none 0 0, .slice none 0 0] 24)) (w.heap.size + 1) 94 [.int .i64 k, .bool false, .int .i64 (a : Int), .int .i64 (v : Int)] ∧ Arr (((w.alloc (.cells #[.slice A X.length c, .slice A' O.length c'] 24)).alloc (.cells #[.int .i64 k, .bool false, .int .i64 (a : Int), .int .i64 (v : Int)] 94)).alloc (.cells #[.slice none 0 0, .slice none 0 0] 24)) (w.heap.size + 2) 24 [.slice none 0 0, .slice none 0 0] ∧ Below w.heap.size w (((w.alloc (.cells #[.slice A X.length c, .slice A' O.length c'] 24)).alloc (.cells #[.int .i64 k, .bool false, .int .i64 (a : Int), .int .i64 (v : Int)] 94)).alloc (.cells #[.slice none 0 0, .slice none 0 0] 24)) ∧ (((w.alloc (.cells #[.slice A X.length c, .slice A' O.length c'] 24)).alloc (.cells #[.int .i64 k, .bool false, .int .i64 (a : Int), .int .i64 (v : Int)] 94)).alloc (.cells #[.slice none 0 0, .slice none 0 0] 24)).heap.size = w.heap.size + 3 :=
    ⟨((Arr.new _ _ [_, _]).alloc _).alloc _, (Arr.newAt (w.alloc _) _ [_, _, _, _] _ (by simp)).alloc _, Arr.newAt ((w.alloc _).alloc _) _ [_, _] _ (by simp),
      (((Below.refl _ _).alloc (Nat.le_refl _) _).alloc (by simp) _).alloc (by simp <;> omega) _, by simp⟩
  generalize (((w.alloc (.cells #[.slice A X.length c, .slice A' O.length c'] 24)).alloc (.cells #[.int .i64 k, .bool false, .int .i64 (a : Int), .int .i64 (v : Int)] 94)).alloc (.cells #[.slice none 0 0, .slice none 0 0] 24)) = w4 at hW ⊢
  obtain ⟨q0, q1, q2, hb4, hs4⟩ := hW
  refine (valid_any _ _ X O _ (hX0.below hb4) (hO0.below hb4) hl hl').mono ?_
  rintro e w5 ⟨rfl, hb5⟩
  have hbw5 := hb4.trans (hb5.mono hb4.size)
  have p0 := q0.below hb5 q0.lt
  have p1 := q1.below hb5 q1.lt
  have p2 := q2.below hb5 q2.lt
  have hsz := hb5.size
  rw [hs4] at hsz
  clear q0 q1 q2 hb5 hb4 hs4
  have y0 := p0.cell 0
  have y1 := p0.cell 1
  have z0 := p1.cell 0
  have z1 := p1.cell 1
  have z2 := p1.cell 2
  have z3 := p1.cell 3
  have y2 := p2.cell 0
  have y3 := p2.cell 1
  have y4 := p2.frozen 0
  have y5 := p2.frozen 1
  rw [hv]
  go_wp2_with fail
  refine (limits_any k X.length _ (by omega) (by have := (validB_facts hv).2.1; omega)).mono ?_
  rintro e w6 ⟨rfl, rfl⟩
  have HC := Lib.hid (columns_any (.slice A X.length c) (.slice A' O.length c') X O false a v w5 (hX0.below hbw5) (hO0.below hbw5) vf.out.2.1 vf.out.1 vf.out.2.2.1 vf.out.2.2.2.1 vf.out.2.2.2.2 k HK.out r2 r4)
  generalize limAt k X.length = la at *
  generalize limVar k X.length = lv at *
  have u1 : decide ((a : Int) < 0) = false := by simp
  have u2 : decide (la ≤ (a : Int)) = false := by simp; omega
  have u3 : decide ((v : Int) < 0) = false := by simp
  have u4 : decide (lv ≤ (v : Int)) = false := by simp; omega
  go_wp2_with fail
  clear u1 u2 u3 u4
  refine HC.out.mono ?_
  rintro e w6 ⟨hb6, v6, rfl, hres⟩
  have hr := p2.below hb6 p2.lt
  have hbw6 := hbw5.trans (hb6.mono hbw5.size)
  have hlt6 := p2.lt
  clear y0 y1 y2 y3 y4 y5 z0 z1 z2 z3 HC
  have s0 := hr.cell 0
  have s1 := hr.cell 1
  have s2 := hr.frozen 0
  have s3 := hr.frozen 1
  generalize colsM X O k a v = R at *
  obtain ⟨R1, R2, R3⟩ := R
  by_cases h0 : R1 = 0
  · subst h0
    rw [if_pos rfl] at hres
    obtain ⟨gx, go, rfl, e1, e2, e3, a1, a2⟩ := hres
    have hres := Lib.hid ((hr.set 0 (.slice (some ⟨gx, 0, none⟩) R2.length R2.length)).set 1 (.slice (some ⟨go, 0, none⟩) R3.length R3.length))
    go_wp2_with fail
    refine bodyPost_ret (v := .tuple #[.agg #[.slice (some ⟨gx, 0, none⟩) R2.length R2.length, .slice (some ⟨go, 0, none⟩) R3.length R3.length], .int .i64 0]) (results_ct Tryz.results50 _ _ (w.heap.size + 2) 24 _ _ rfl hres.out Tryz.underlying24 rfl info_grid) rfl ?_
    rw [hfin.out]
    exact GRes.ok (bset2 (r := w.heap.size + 2) hbw6 (by omega)) ⟨gx, go, rfl, e1, by omega, by omega, a1.far2 (r := w.heap.size + 2) (by omega), a2.far2 (r := w.heap.size + 2) (by omega)⟩
  · rw [if_neg h0] at hres
    subst hres
    have hres := Lib.hid ((hr.set 0 (.slice none 0 0)).set 1 (.slice none 0 0))
    go_wp2_with fail
    refine bodyPost_ret (v := .tuple #[.agg #[.slice none 0 0, .slice none 0 0], .int .i64 R1]) (results_ct Tryz.results50 _ _ (w.heap.size + 2) 24 _ _ rfl hres.out Tryz.underlying24 rfl info_grid) rfl ?_
    rw [hfin.out]
    exact ⟨bset2 (r := w.heap.size + 2) hbw6 (by omega), _, rfl, by rw [if_neg h0]⟩
end Go.Proofs.YteliflcbegcdlaaGreatDoor

namespace Go.Proofs.YteliflcbegcdlaaGreatDoor
set_option linter.unusedVariables false
open Go.RowKit
/-- v is a slice of the call's own, from block base on, that holds the integers xs -/
def OwnI (e : TypeId) (base : Nat) (w : World) (v : Value) (xs : List Int) : Prop := w.ownsRow base e 1 v xs.length (xs.map (Value.int .i64))
section
variable {e : TypeId} {base : Nat} {w w' : World} {v : Value} {xs : List Int}
theorem OwnI.nil (e : TypeId) (base : Nat) (w : World) : OwnI e base w (.slice none 0 0) [] := ⟨rfl, .inl ⟨rfl, rfl⟩⟩
theorem OwnI.form (h : OwnI e base w v xs) : ∃ A c, v = .slice A xs.length c := by
  rcases h.2 with ⟨rfl, h0⟩ | ⟨g, cap, cur, rfl, _⟩
  · exact ⟨none, 0, by rw [h0]⟩
  · exact ⟨_, _, rfl⟩
theorem OwnI.block (h : OwnI e base w v xs) : ∀ k, v.ownBlock = some k → base ≤ k := by
  intro k hk
  rcases h.2 with ⟨rfl, h0⟩ | ⟨g, cap, cur, rfl, hg, _⟩
  · simp [Value.ownBlock] at hk
  · simp [Value.ownBlock] at hk; omega
theorem OwnI.ints (h : OwnI e base w v xs) : Ints w v xs := by
  rcases h.2 with ⟨rfl, h0⟩ | ⟨g, cap, cur, rfl, hg, hh, hn, _, hc, ht⟩
  · have : xs = [] := List.eq_nil_of_length_eq_zero h0
    subst this
    exact Ints.nil w
  · refine ⟨_, _, rfl, hn, fun k x hk => ⟨g, 0, rfl, ?_⟩⟩
    rw [cell_of_row w g _ cur e (0, 0) hh, Nat.zero_add]
    have hk' : k < xs.length := (List.getElem?_eq_some_iff.1 hk).1
    have h1 : (cur.toList.take (xs.length * 1))[k]? = some (.int .i64 x) := by rw [ht, List.getElem?_map, hk]; rfl
    rw [List.getElem?_take, if_pos (by omega)] at h1
    simpa using h1
theorem OwnI.below {B : Nat} (h : OwnI e base w v xs) (hb : Below B w w') (hB : w.heap.size ≤ B) : OwnI e base w' v xs := by
  refine ⟨h.1, ?_⟩
  rcases h.2 with h0 | ⟨g, cap, cur, e1, hg, hh, r⟩
  · exact .inl h0
  · refine .inr ⟨g, cap, cur, e1, hg, ?_, r⟩
    have hlt : g < w.heap.size := by
      rcases Nat.lt_or_ge g w.heap.size with hlt | hge
      · exact hlt
      · rw [Array.getElem?_eq_none hge] at hh; cases hh
    rw [hb.block g (by omega)]; exact hh
theorem OwnI.alloc (h : OwnI e base w v xs) (o : Obj) : OwnI e base (w.alloc o) v xs := h.below ((Below.refl _ _).alloc (Nat.le_refl _) o) (Nat.le_refl _)
theorem OwnI.drew (h : OwnI e base w v xs) : OwnI e base w.drew v xs := h
theorem OwnI.drewN (h : OwnI e base w v xs) (n : Nat) : OwnI e base (w.drewN n) v xs := h
/-- the run of append(v, u...) -/
theorem run_appI {P : Program} {t ty : TypeId} {i : TypeInfo} (ht : P.underlying t = some (.slice e)) (hi : P.info? e = some i) (hz : i.zero = some (.int .i64 0)) (hs : i.size = 1) (hby : i.bytes = 8)
    (h : OwnI e base w v xs) {u : Value} {ys : List Int} (hu : Ints w u ys) (hlen : xs.length + ys.length ≤ 1000000000) (hbase : base ≤ w.heap.size) :
    ∃ v' w', (Builtin.append_ #[t, t] ty #[v, u]).run P w = .ok v' w' ∧ OwnI e base w' v' (xs ++ ys) ∧ Below base w w' ∧ (∀ k, k < w.heap.size → v.ownBlock ≠ some k → w'.heap[k]? = w.heap[k]?) := by
  obtain ⟨A, c, rfl, hc, hx⟩ := hu
  cases A with
  | none =>
    have hy : ys = [] := by
      cases ys with
      | nil => rfl
      | cons y ys => obtain ⟨b, o, hA, _⟩ := hx 0 y rfl; cases hA
    subst hy
    refine ⟨v, w, ?_, by simpa using h, Below.refl _ _, fun _ _ _ => rfl⟩
    rcases h.2 with ⟨rfl, h0⟩ | ⟨g, cap, cur, rfl, _, _, hnc, _⟩
    · simp [Builtin.append_, run_underlying ht, sizeOf, typeInfo, hi, Builtin.lenOf, Builtin.firstCells]
    · simp [Builtin.append_, run_underlying ht, sizeOf, typeInfo, hi, Builtin.lenOf, Builtin.firstCells, hnc, storeCells]
  | some ad =>
    have hcells : ∀ j q, (ys.map (Value.int .i64))[j]? = some q → w.cell? (ad.add j) = some q := by
      intro j q hq
      rw [List.getElem?_map] at hq
      cases hy : ys[j]? with
      | none => rw [hy] at hq; cases hq
      | some y =>
        rw [hy] at hq
        injection hq with hq
        obtain ⟨b, o, hA, hcell⟩ := hx j y hy
        injection hA with hA
        subst hA
        rw [← hq]
        have : (⟨b, o, none⟩ : Addr).add j = ⟨b, o + j, none⟩ := by unfold Addr.add; split <;> simp_all
        rw [this]; exact hcell
    obtain ⟨v', w', hrun, h2, h3, _, _⟩ := run_append_own_at (P := P) w base t ty e i (.int .i64 0) 1 8 ht hi hz hs hby rfl (by decide) v xs.length (xs.map (Value.int .i64)) h ad ys.length c (ys.map (Value.int .i64)) (by simp) hcells
      (by intro q hq; obtain ⟨y, _, rfl⟩ := List.mem_map.1 hq; rfl) (by unfold maxLen; omega) (by omega) hbase
    refine ⟨v', w', hrun, ?_, (Below.refl _ _).grown h3 hbase h.block, fun k hk hne => h3.block k hk (fun e => hne e.symm)⟩
    unfold OwnI
    rw [List.length_append, List.map_append]
    exact h2
end
section
variable {P : Program} {w : World} {e : TypeId} {base : Nat} {v : Value} {xs : List Int}
theorem wp_appI {o : Oper} {a : Act} {K : Act → World → Prop} {Q : Exit → Act → World → Prop} (s x : Operand) (t : TypeId) (ho : o.op = .call { callee := .builtin .append, args := #[s, x], argTypes := #[t, t] })
    {i : TypeInfo} (ht : P.underlying t = some (.slice e)) (hi : P.info? e = some i) (hz : i.zero = some (.int .i64 0)) (hs : i.size = 1) (hby : i.bytes = 8)
    (hv : a.eval s = v) (h : OwnI e base w v xs) {u : Value} {ys : List Int} (hx : a.eval x = u) (hu : Ints w u ys) (hlen : xs.length + ys.length ≤ 1000000000) (hbase : base ≤ w.heap.size)
    (hK : ∀ v' w', OwnI e base w' v' (xs ++ ys) → Below base w w' → (∀ k, k < w.heap.size → v.ownBlock ≠ some k → w'.heap[k]? = w.heap[k]?) → K (a.put o.dst v') w') : o.wp P a w K Q := by
  obtain ⟨v', w', hrun, h1, h2, h3⟩ := run_appI (P := P) (ty := o.type) ht hi hz hs hby h hu hlen hbase
  unfold Oper.wp execOp
  simp only [ho, resolve, invoke, builtin, Sem.run_bind, Sem.run_pure, Result.andThen_ok, List.map_toArray, List.map_cons, List.map_nil, hv, hx, hrun]
  exact hK v' w' h1 h2 h3
/-- in a plain region, behind 'at_builtin' -/
theorem wpList_appI {ops : Array Oper} {rest : List Oper} {o : Oper} {a : Act} {Q : Exit → Act → World → Prop} (hgd : o.guard = none) (s x : Operand) (t : TypeId) (ho : o.op = .call { callee := .builtin .append, args := #[s, x], argTypes := #[t, t] })
    {i : TypeInfo} (ht : P.underlying t = some (.slice e)) (hi : P.info? e = some i) (hz : i.zero = some (.int .i64 0)) (hs : i.size = 1) (hby : i.bytes = 8)
    (hv : a.eval s = v) (h : OwnI e base w v xs) {u : Value} {ys : List Int} (hx : a.eval x = u) (hu : Ints w u ys) (hlen : xs.length + ys.length ≤ 1000000000) (hbase : base ≤ w.heap.size)
    (hK : ∀ v' w', OwnI e base w' v' (xs ++ ys) → Below base w w' → (∀ k, k < w.heap.size → v.ownBlock ≠ some k → w'.heap[k]? = w.heap[k]?) → wpList P ops Q rest (a.put o.dst v') w') : wpList P ops Q (o :: rest) a w :=
  wpList_plain hgd fun _ hk => wp_appI s x t ho ht hi hz hs hby hv h hx hu hlen hbase fun v' w' h1 h2 h3 => hk _ _ (hK v' w' h1 h2 h3)
/-- in a region that draws its order -/
theorem step_appI {ops : Array Oper} {o : Oper} {a : Act} {K : Act → World → Prop} {Q : Exit → Act → World → Prop} {E : Prop} (hgd : o.guard = none) (s x : Operand) (t : TypeId) (ho : o.op = .call { callee := .builtin .append, args := #[s, x], argTypes := #[t, t] })
    {i : TypeInfo} (ht : P.underlying t = some (.slice e)) (hi : P.info? e = some i) (hz : i.zero = some (.int .i64 0)) (hs : i.size = 1) (hby : i.bytes = 8)
    (hv : a.eval s = v) (h : OwnI e base w v xs) {u : Value} {ys : List Int} (hx : a.eval x = u) (hu : Ints w u ys) (hlen : xs.length + ys.length ≤ 1000000000) (hbase : base ≤ w.heap.size)
    (hK : ∀ v' w', OwnI e base w' v' (xs ++ ys) → Below base w w' → (∀ k, k < w.heap.size → v.ownBlock ≠ some k → w'.heap[k]? = w.heap[k]?) → K (a.put o.dst v') w') : if Region.wanted o (yielded ops a.tmps) = true then Oper.wp P o a w K Q else E := by
  have hw : Region.wanted o (yielded ops a.tmps) = true := by simp [Region.wanted, hgd]
  rw [if_pos hw]
  exact wp_appI s x t ho ht hi hz hs hby hv h hx hu hlen hbase hK
end
theorem OwnI.emptyAt {w : World} {e : TypeId} {base g : Nat} (hb : base ≤ g) (hg : w.heap[g]? = some (.cells #[] e (0, 0))) : OwnI e base w (.slice (some ⟨g, 0, none⟩) 0 0) [] :=
  ⟨rfl, .inr ⟨g, 0, #[], rfl, hb, hg, Nat.le_refl _, by unfold maxLen; omega, rfl, rfl⟩⟩
/-- a part of a slice reads as the part of the list -/
theorem Ints.sub {w : World} {A : Option Addr} {n c lo hi : Nat} {xs : List Int} (h : Ints w (.slice A n c) xs) (h1 : lo ≤ hi) (h2 : hi ≤ xs.length) (c' : Nat) (hc : hi - lo ≤ c') (A' : Option Addr) (hA : lo < hi → A' = A.map (·.add lo)) :
    Ints w (.slice A' (hi - lo) c') ((xs.take hi).drop lo) := by
  obtain ⟨A0, c0, hv, hcap, hx⟩ := h
  injection hv with e1 e2 e3
  subst e1
  have hlen : ((xs.take hi).drop lo).length = hi - lo := by simp; omega
  refine ⟨A', c', by rw [hlen], by omega, fun k x hk => ?_⟩
  have hk' : k < hi - lo := by have := (List.getElem?_eq_some_iff.1 hk).1; omega
  rw [List.getElem?_drop, List.getElem?_take, if_pos (by omega)] at hk
  obtain ⟨b, o, hA0, hcell⟩ := hx (lo + k) x hk
  subst hA0
  refine ⟨b, o + lo, ?_, by rw [Nat.add_assoc]; exact hcell⟩
  rw [hA (by omega)]
  simp only [Option.map_some, Addr.add]
  split <;> simp_all
end Go.Proofs.YteliflcbegcdlaaGreatDoor

namespace Go.Proofs.YteliflcbegcdlaaGreatDoor
set_option linter.unusedVariables false
open Go.RowKit
section
variable {e : TypeId} {base : Nat} {w w' : World} {v : Value} {xs : List Int}
end
section
variable {P : Program} {w : World} {e : TypeId} {base : Nat} {v : Value} {xs : List Int}
end
end Go.Proofs.YteliflcbegcdlaaGreatDoor

namespace Go.Proofs.YteliflcbegcdlaaGreatDoor
set_option linter.unusedVariables false
/-- a sum -/
def sumI : Nat → (Nat → Int) → Int
  | 0, _ => 0
  | c + 1, f => sumI c f + f c
theorem sumI_congr {C : Nat} {f g : Nat → Int} (h : ∀ l, l < C → f l = g l) : sumI C f = sumI C g := by
  induction C with
  | zero => rfl
  | succ c ih => rw [sumI, sumI, ih (fun l hl => h l (by omega)), h c (by omega)]
theorem sumI_one {C j : Nat} {f g : Nat → Int} (hj : j < C) (h : ∀ l, l < C → l ≠ j → f l = g l) : sumI C f = sumI C g + (f j - g j) := by
  induction C with
  | zero => omega
  | succ c ih =>
    rw [sumI, sumI]
    by_cases e : j = c
    · subst e
      rw [sumI_congr (f := f) (g := g) (fun l hl => h l (by omega) (by omega))]; omega
    · rw [ih (by omega) (fun l hl hne => h l (by omega) hne), h c (by omega) (fun q => e q.symm)]; omega
theorem sumI_two {C j k : Nat} {f g : Nat → Int} (hj : j < C) (hk : k < C) (hjk : j ≠ k) (h : ∀ l, l < C → l ≠ j → l ≠ k → f l = g l) : sumI C f = sumI C g + (f j - g j) + (f k - g k) := by
  have h1 := sumI_one (f := f) (g := fun l => if l = k then f k else g l) hj (fun l hl hne => by
    show f l = if l = k then f k else g l
    by_cases e : l = k
    · rw [if_pos e, e]
    · rw [if_neg e]; exact h l hl hne e)
  have h2 := sumI_one (f := fun l => if l = k then f k else g l) (g := g) hk (fun l hl hne => by
    show (if l = k then f k else g l) = g l
    rw [if_neg hne])
  simp only [if_neg hjk, if_pos] at h1 h2
  rw [h1, h2]; omega
theorem sumI_mul {C : Nat} (f : Nat → Int) (b : Int) : sumI C (fun l => b * f l) = b * sumI C f := by
  induction C with
  | zero => simp [sumI]
  | succ c ih => simp only [sumI]; rw [ih, Int.mul_add]
theorem sumI_zero {C : Nat} : sumI C (fun _ => 0) = 0 := by
  induction C with
  | zero => rfl
  | succ c ih => rw [sumI, ih]; rfl
theorem sumI_single {C j : Nat} {f : Nat → Int} (hj : j < C) (h : ∀ l, l < C → l ≠ j → f l = 0) : sumI C f = f j := by
  have := sumI_one (f := f) (g := fun _ => 0) hj h
  rw [sumI_zero] at this
  omega
theorem sumI_plus {C : Nat} (f g : Nat → Int) : sumI C (fun l => f l + g l) = sumI C f + sumI C g := by
  induction C with
  | zero => simp [sumI]
  | succ c ih => simp only [sumI]; rw [ih]; omega
theorem sumI_swap (n r : Nat) (F : Nat → Nat → Int) : sumI n (fun i => sumI r (fun k => F i k)) = sumI r (fun k => sumI n (fun i => F i k)) := by
  induction n with
  | zero => simp only [sumI]; rw [sumI_zero]
  | succ n ih => simp only [sumI]; rw [ih, sumI_plus]
end Go.Proofs.YteliflcbegcdlaaGreatDoor
