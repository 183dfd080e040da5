/- The reference's functions that append: without, insert. -/
/- The reference's Less (layer 42). -/
/- The reference's remove. -/
/- The reference's exchange. -/
/- Facts on memory for regions that draw their order: growth, and which rows lie apart. -/
/- The reference's add. -/
import Derived.Test.YteliflcbegcdlaaGreatDoorWwGcol
import Derived.Deep.RegionHeld3
import Derived.Deep.RegionLaw
import Derived.WalkSpells
import Derived.Test.YteliflcbegcdlaaGreatDoorWwRtr
import Derived.Test.YteliflcbegcdlaaGreatDoorWwBase2
import Derived.Deep.DeepCutAuto
import Derived.Deep.RegionWith
import Derived.Test.YteliflcbegcdlaaGreatDoorWwGrf
import Derived.IntWalk
import Derived.Test.YteliflcbegcdlaaGreatDoorWwFresh
namespace Go.Proofs.YteliflcbegcdlaaGreatDoor
open Go.RowKit
set_option linter.unusedVariables false
theorem OwnI.empty (w : World) (e : TypeId) : OwnI e w.heap.size (w.alloc (.cells #[] e)) (.slice (some ⟨w.heap.size, 0, none⟩) 0 0) [] :=
  ⟨rfl, .inr ⟨w.heap.size, 0, #[], rfl, Nat.le_refl _, heap_alloc_new w _, Nat.le_refl _, by unfold maxLen; omega, rfl, rfl⟩⟩
/-- s[lo:] as the walk spells it -/
theorem Ints.tail {w : World} {A : Option Addr} {c lo : Nat} {xs : List Int} (h : Ints w (.slice A xs.length c) xs) (h1 : lo + 1 ≤ xs.length + 1) (hc : xs.length ≤ c) :
    Ints w (.slice (if c = lo then A else Option.map (fun x => { block := x.block, off := x.off + lo }) A) (xs.length - lo) (c - lo)) (xs.drop lo) := by
  have := h.sub (lo := lo) (hi := xs.length) (by omega) (Nat.le_refl _) (c - lo) (by omega) (if c = lo then A else Option.map (fun x => { block := x.block, off := x.off + lo }) A) (fun hlt => by
    rw [if_neg (by omega)]
    by_cases h0 : lo = 0
    · subst h0
      obtain ⟨A0, c0, hv, _, hx⟩ := h
      injection hv with e1 _ _
      subst e1
      obtain ⟨b, o, rfl, _⟩ := hx 0 _ (List.getElem?_eq_getElem hlt)
      rfl
    · congr 1
      funext x
      simp [Addr.add, h0])
  rw [List.take_length] at this
  exact this
theorem Ints.tail' {w : World} {A : Option Addr} {c lo : Nat} {xs : List Int} (h : Ints w (.slice A xs.length c) xs) (h1 : lo + 1 ≤ xs.length + 1) (hc : xs.length ≤ c) :
    Ints w (.slice (if c = lo then A else Option.map (fun x => x.add lo) A) (xs.length - lo) (c - lo)) (xs.drop lo) := by
  have := h.sub (lo := lo) (hi := xs.length) (by omega) (Nat.le_refl _) (c - lo) (by omega) (if c = lo then A else Option.map (fun x => x.add lo) A) (fun hlt => by rw [if_neg (by omega)])
  rw [List.take_length] at this
  exact this
set_option maxRecDepth 100000 in
set_option maxHeartbeats 1000000 in
theorem without_any (vx : Value) (X : List Int) (a : Nat) (w : World) (hX : Ints w vx X) (hl : X.length ≤ 1000) (ha : a < X.length) :
    Calls Tryz.prog 99 #[vx, .int .i64 a] w fun e w' => ∃ v, e = .returned v ∧ OwnI 3 w.heap.size w' v (X.take a ++ X.drop (a + 1)) ∧ Below w.heap.size w w' := by
  obtain ⟨i0, hi0, hz0, hz1, hz2⟩ := info_parts info_int8
  have hX0 := hX
  obtain ⟨A, c, rfl, hc, hh⟩ := hX
  clear hh
  have ha1 : (a : Int) ≤ (c : Int) := by omega
  have ha2 : (a : Int) + 1 ≤ (X.length : Int) := by omega
  have ha3 : IntKind.i64.wrap ((a : Int) + 1) = (a : Int) + 1 := IntWalk.i64_in _ (by omega)
  have ha4 : (0 : Int) ≤ (a : Int) + 1 := by omega
  have ha5 : ((a : Int) + 1).toNat = a + 1 := by omega
  have hI1 : Ints w (.slice A a c) (X.take a) := by
    have := hX0.sub (lo := 0) (hi := a) (by omega) (by omega) c (by omega) A (fun _ => by cases A <;> rfl)
    simpa using this
  have HI1 := Lib.hid hI1
  clear hI1
  have HI2 := Lib.hid (Ints.tail hX0 (lo := a + 1) (by omega) hc)
  go_enter Tryz.func99, Tryz.ntmps99
  go_wp2_with fail
  go_region_law (first
    | (refine step_appI rfl (.tmp 5) (.tmp 8) 22 rfl Tryz.underlying22 hi0 hz0 hz1 hz2 rfl (OwnI.empty w _).drew rfl (HI1.out.alloc _).drew (by simp; omega) (by simp) ?_; intro v1 w1 hown1 hb1 hk1)
    | (refine step_appI rfl (.tmp 9) (.tmp 13) 22 rfl Tryz.underlying22 hi0 hz0 hz1 hz2 rfl hown1 rfl (HI2.out.below (((Below.refl _ _).alloc (Nat.le_refl _) _).drew.trans hb1)) (by simp; omega) (Nat.le_trans (by simp) hb1.size) ?_; intro v2 w2 hown2 hb2 hk2))
  go_wp2_with fail
  all_goals
    go_ret
    exact ⟨_, rfl, by simpa using hown2, (((Below.refl _ _).alloc (Nat.le_refl _) _).drew.trans hb1).trans hb2⟩
theorem keepA {w w1 : World} {E Y : Obj} (hk : ∀ k, k < ((w.alloc E).alloc Y).drew.heap.size → Value.ownBlock (.slice (some ⟨w.heap.size, 0, none⟩) 0 0) ≠ some k → w1.heap[k]? = ((w.alloc E).alloc Y).drew.heap[k]?) : w1.heap[w.heap.size + 1]? = some Y := by
  rw [hk (w.heap.size + 1) (by simp [heap_drew]) (by simp [Value.ownBlock])]
  show ((w.heap.push E).push Y)[w.heap.size + 1]? = some Y
  rw [Array.getElem?_push, if_pos (by simp)]
theorem keepB {w w1 : World} {E Y : Obj} (hk : ∀ k, k < ((w.alloc Y).alloc E).drew.heap.size → Value.ownBlock (.slice (some ⟨w.heap.size + 1, 0, none⟩) 0 0) ≠ some k → w1.heap[k]? = ((w.alloc Y).alloc E).drew.heap[k]?) : w1.heap[w.heap.size]? = some Y := by
  rw [hk w.heap.size (by simp [heap_drew]; omega) (by simp [Value.ownBlock])]
  show ((w.heap.push Y).push E)[w.heap.size]? = some Y
  rw [Array.getElem?_push, if_neg (by simp), Array.getElem?_push, if_pos rfl]
set_option maxRecDepth 100000 in
set_option maxHeartbeats 1000000 in
theorem insert_any (vx : Value) (X : List Int) (a : Nat) (y : Int) (w : World) (hX : Ints w vx X) (hl : X.length ≤ 1000) (ha : a ≤ X.length) :
    Calls Tryz.prog 101 #[vx, .int .i64 a, .int .i64 y] w fun e w' => ∃ v, e = .returned v ∧ OwnI 3 w.heap.size w' v (X.take a ++ y :: X.drop a) ∧ Below w.heap.size w w' := by
  obtain ⟨i0, hi0, hz0, hz1, hz2⟩ := info_parts info_int8
  have hX0 := hX
  obtain ⟨A, c, rfl, hc, hh⟩ := hX
  clear hh
  have ha1 : (a : Int) ≤ (c : Int) := by omega
  have ha2 : (a : Int) ≤ (X.length : Int) := by omega
  have hI1 : Ints w (.slice A a c) (X.take a) := by
    have := hX0.sub (lo := 0) (hi := a) (by omega) (by omega) c (by omega) A (fun _ => by cases A <;> rfl)
    simpa using this
  have HI1 := Lib.hid hI1
  clear hI1
  have HI2 := Lib.hid (Ints.tail' hX0 (lo := a) (by omega) hc)
  go_enter Tryz.func101, Tryz.ntmps101
  go_wp2_with fail
  go_region_law (first
    | (refine step_appI rfl (.tmp 7) (.tmp 10) 22 rfl Tryz.underlying22 hi0 hz0 hz1 hz2 rfl (OwnI.emptyAt (base := w.heap.size) (by omega) (by simp only [heap_push, heap_drew, Array.getElem?_push, Array.size_push]; repeat (first | rw [if_pos trivial] | rw [if_neg (by omega)]))) rfl (HI1.out.below (by repeat (first | exact Below.refl _ _ | refine Below.drew ?_ | refine Below.alloc ?_ (by simp <;> omega) _))) (by simp; omega) (by simp <;> omega) ?_; intro v1 w1 hown1 hb1 hk1; have hB1 : Below w.heap.size w w1 := Below.trans (by repeat (first | exact Below.refl _ _ | refine Below.drew ?_ | refine Below.alloc ?_ (by simp <;> omega) _)) hb1; (first | have hy := keepA hk1 | have hy := keepB hk1 | skip); clear hk1 hb1)
    | (refine step_appI rfl (.tmp 11) (.tmp 13) 22 rfl Tryz.underlying22 hi0 hz0 hz1 hz2 rfl hown1 rfl (Ints.of_arr (xs := [y]) hy) (by simp; omega) hB1.size ?_; intro v2 w2 hown2 hb2 hk2; have hB2 := hB1.trans hb2; clear hk2 hb2)
    | (refine step_appI rfl (.tmp 11) (.tmp 13) 22 rfl Tryz.underlying22 hi0 hz0 hz1 hz2 rfl (hown1.alloc _) rfl (Ints.one w1 _ y) (by simp; omega) (hB1.alloc hB1.size _).size ?_; intro v2 w2 hown2 hb2 hk2; have hB2 := (hB1.alloc hB1.size _).trans hb2; clear hk2 hb2)
    | (refine step_appI rfl (.tmp 14) (.tmp 17) 22 rfl Tryz.underlying22 hi0 hz0 hz1 hz2 rfl hown2 rfl (HI2.out.below hB2) (by simp; omega) hB2.size ?_; intro v3 w3 hown3 hb3 hk3; have hB3 := hB2.trans hb3; clear hk3 hb3))
  all_goals
    go_wp2_with fail
    all_goals
      go_ret
      exact ⟨_, rfl, by simpa using hown3, hB3⟩
end Go.Proofs.YteliflcbegcdlaaGreatDoor

namespace Go.Proofs.YteliflcbegcdlaaGreatDoor
open Go.RowKit
set_option linter.unusedVariables false
set_option maxHeartbeats 2000000 in
theorem refLess_any (va vb vc vd : Value) (X O Y R : List Int) (w : World) (hX : Ints w va X) (hO : Ints w vb O) (hY : Ints w vc Y) (hR : Ints w vd R) (l1 : X.length ≤ 1000) (l2 : O.length ≤ 1000) (l3 : Y.length = X.length) (l4 : R.length = O.length) :
    Calls Tryz.prog 42 #[.agg #[va, vb], .agg #[vc, vd]] w fun e w' => e = .returned (.bool (decide (cmpL (X ++ O) (Y ++ R) < 0))) ∧ Below w.heap.size w w' := by
  obtain ⟨i0, hi0, hz0, hz1, hz2⟩ := info_parts info_int8
  have hX0 := hX
  have hO0 := hO
  have hY0 := hY
  have hR0 := hR
  have L3 := Lib.hid l3
  have L4 := Lib.hid l4
  clear l3 l4
  obtain ⟨A, c, rfl, -, -⟩ := hX
  obtain ⟨A1, c1, rfl, -, -⟩ := hO
  obtain ⟨A2, c2, rfl, -, -⟩ := hY
  obtain ⟨A3, c3, rfl, -, -⟩ := hR
  go_enter Tryz.func42, Tryz.ntmps42
  go_upto_region 1 with fail
  have hW : ∀ W, W = ((w.alloc (.cells #[.slice A X.length c, .slice A1 O.length c1] 24)).alloc (.cells #[.slice A2 Y.length c2, .slice A3 R.length c3] 24)) → Arr W w.heap.size 24 [.slice A X.length c, .slice A1 O.length c1] ∧ Arr W (w.heap.size + 1) 24 [.slice A2 Y.length c2, .slice A3 R.length c3] ∧ Below w.heap.size w W := by
    rintro W rfl
    exact ⟨(Arr.new _ _ [_, _]).alloc _, Arr.newAt (w.alloc _) _ [_, _] _ (by simp), ((Below.refl _ _).alloc (Nat.le_refl _) _).alloc (by simp) _⟩
  generalize ((w.alloc (.cells #[.slice A X.length c, .slice A1 O.length c1] 24)).alloc (.cells #[.slice A2 Y.length c2, .slice A3 R.length c3] 24)) = w2 at hW ⊢
  obtain ⟨q1, q2, hb2⟩ := hW w2 rfl
  have HX2 := Lib.hid (hX0.below hb2)
  have HO2 := Lib.hid (hO0.below hb2)
  have lq := q1.lt
  clear hW hX0 hO0
  have y0 := q1.cell 0
  have y1 := q1.cell 1
  go_cut [5] (fun s5 wx => OwnI 3 w2.heap.size wx s5 (X ++ O) ∧ Below w2.heap.size w2 wx)
  case first =>
    go_region_law (first
      | (refine step_appI rfl (.tmp 8) (.tmp 10) 22 rfl Tryz.underlying22 hi0 hz0 hz1 hz2 rfl (OwnI.emptyAt (base := w2.heap.size) (by omega) (by simp only [heap_push, heap_drew, Array.getElem?_push, Array.size_push]; repeat (first | rw [if_pos trivial] | rw [if_neg (by omega)]))) rfl (HX2.out.below (by repeat (first | exact Below.refl _ _ | refine Below.drew ?_ | refine Below.alloc ?_ (by simp <;> omega) _))) (by simp; omega) (by simp <;> omega) ?_; intro v1 w1 hown1 hb1 hk1; have hB1 : Below w2.heap.size w2 w1 := Below.trans (by repeat (first | exact Below.refl _ _ | refine Below.drew ?_ | refine Below.alloc ?_ (by simp <;> omega) _)) hb1; have y1' := (hB1.cell (p := ⟨w.heap.size, 1, none⟩) lq).trans y1; clear hk1 hb1)
      | (refine step_appI rfl (.tmp 11) (.tmp 13) 22 rfl Tryz.underlying22 hi0 hz0 hz1 hz2 rfl hown1 rfl (HO2.out.below hB1) (by simp; omega) hB1.size ?_; intro v2 w4 hown2 hb4 hk4; have hB4 := hB1.trans hb4; clear hk4 hb4))
    all_goals
      go_wp2_with fail
      go_meet
      exact ⟨by simpa using hown2, hB4⟩
  case rest =>
    obtain ⟨hown, hbx⟩ := hcut
    clear y0 y1 q1 lq HX2 HO2
    have q3 := q2.below hbx q2.lt
    have HB := Lib.hid (hb2.trans (hbx.mono hb2.size))
    have HY2 := Lib.hid (hY0.below HB.out)
    have HR2 := Lib.hid (hR0.below HB.out)
    obtain ⟨P, hP⟩ : ∃ P, P = X ++ O := ⟨_, rfl⟩
    rw [← hP] at hown
    have HP := Lib.hid hP
    have HOW := Lib.hid hown
    clear hP
    clear hown hbx hb2 q2 hY0 hR0
    have lq := q3.lt
    have y0 := q3.cell 0
    have y1 := q3.cell 1
    go_wp2_with fail
    have l3' : Y.length ≤ 1000 := by have := L3.out; omega
    have l4' : R.length ≤ 1000 := by have := L4.out; omega
    obtain ⟨G1, d1, hv5⟩ := HOW.out.form
    have HI1 := Lib.hid (fun W (hb : Below wc.heap.size wc W) => (HOW.out.ints).below hb)
    have HBt := Lib.hid (fun W (hb : Below wc.heap.size wc W) => HB.out.trans (hb.mono HB.out.size))
    subst hv5
    go_cut [6] (fun s6 wy => OwnI 3 wc.heap.size wy s6 (Y ++ R) ∧ Below wc.heap.size wc wy)
    case first =>
      go_region_law (first
        | (refine step_appI rfl (.tmp 15) (.tmp 17) 22 rfl Tryz.underlying22 hi0 hz0 hz1 hz2 rfl (OwnI.emptyAt (base := wc.heap.size) (by omega) (by simp only [heap_push, heap_drew, Array.getElem?_push, Array.size_push]; repeat (first | rw [if_pos trivial] | rw [if_neg (by omega)]))) rfl (HY2.out.below (by repeat (first | exact Below.refl _ _ | refine Below.drew ?_ | refine Below.alloc ?_ (by simp <;> omega) _))) (by simp; omega) (by simp <;> omega) ?_; intro v1 w5 hown1 hb1 hk1; have hB1 : Below wc.heap.size wc w5 := Below.trans (by repeat (first | exact Below.refl _ _ | refine Below.drew ?_ | refine Below.alloc ?_ (by simp <;> omega) _)) hb1; have y1' := (hB1.cell (p := ⟨w.heap.size + 1, 1, none⟩) lq).trans y1; clear hk1 hb1)
        | (refine step_appI rfl (.tmp 18) (.tmp 20) 22 rfl Tryz.underlying22 hi0 hz0 hz1 hz2 rfl hown1 rfl (HR2.out.below hB1) (by simp; omega) hB1.size ?_; intro v2 w6 hown2 hb4 hk4; have hB4 := hB1.trans hb4; clear hk4 hb4))
      all_goals
        go_wp2_with fail
        go_meet
        exact ⟨by simpa using hown2, hB4⟩
    case rest =>
      obtain ⟨hown2, hb5⟩ := hcut
      obtain ⟨Q, hQ⟩ : ∃ Q, Q = Y ++ R := ⟨_, rfl⟩
      rw [← hQ] at hown2
      have HQ := Lib.hid hQ
      clear hQ
      obtain ⟨G2, d2, hv6⟩ := hown2.form
      subst hv6
      have i1 := HI1.out _ hb5
      have i2 := hown2.ints
      have hbw := HBt.out _ hb5
      have hlen : (Y ++ R).length = (X ++ O).length := by have := L3.out; have := L4.out; simp; omega
      have hle : (X ++ O).length ≤ 2000 := by simp; omega
      clear hown2 hb5 HI1 HBt HOW y0 y1 q3 lq HB HY2 HR2 L3 L4
      rw [← HP.out] at hlen hle
      rw [← HQ.out] at hlen
      clear l1 l2 l3' l4'
      have HLN := Lib.hid hlen
      clear hlen
      go_wp2_with fail
      go_loopw [7] (fun i wr => ∃ k : Nat, k ≤ P.length ∧ i = .int .i64 k ∧ Ints wr (.slice G1 P.length d1) P ∧ Ints wr (.slice G2 Q.length d2) Q ∧ Below w.heap.size w wr ∧ Hid (cmpL P Q = cmpL (P.drop k) (Q.drop k))) (fun i _ => P.length - (intOf i).toNat)
      case atStart => exact ⟨0, Nat.zero_le _, rfl, i1, i2, hbw, rfl⟩
      case round =>
        clear i1 i2 hbw
        obtain ⟨k, hk, rfl, i1, i2, hb, H⟩ := hrel
        by_cases hlt : k < P.length
        · have hlt' : k < Q.length := by have := HLN.out; omega
          obtain ⟨b, o, e1, hbl, hcX⟩ := i1.at_ hlt
          obtain ⟨b', o', e2, hbl', hcY⟩ := i2.at_ hlt'
          subst e1 e2
          rw [cmpL_drop P Q k hlt hlt'] at H
          have HI1 := Lib.hid i1
          have HI2 := Lib.hid i2
          clear i1 i2
          generalize P[k] = x at *
          generalize Q[k] = y at *
          have z2 : (k : Int) < (P.length : Int) := by omega
          have z3 : (k : Int) < (Q.length : Int) := by omega
          by_cases hxy : x = y
          · have h1 : (x != y) = false := by simp [hxy]
            have H2 := Lib.hid (show cmpL P Q = cmpL (P.drop (k + 1)) (Q.drop (k + 1)) from H.out.trans (by rw [if_neg (by rw [hxy]; unfold cmpI; simp)]))
            clear hxy H
            go_wp2_with fail
            go_quiet (fail)
            go_wp2_with fail
            go_roundw
            case rel => exact ⟨k + 1, by omega, by go_num, HI1.out.drewN _, HI2.out.drewN _, bdrewN hb _, H2⟩
            case measure => simp [intOf]; omega
          · have h1 : (x != y) = true := by simp [hxy]
            have hfin := Lib.hid (show decide (cmpL P Q < 0) = decide (x < y) by
              rw [H.out]
              unfold cmpI
              by_cases q1 : x < y
              · simp [q1]
              · have q2 : y < x := by omega
                simp [q1, q2])
            clear hxy H
            go_wp2_with fail
            go_quiet (fail)
            go_wp2_with fail
            go_quiet (fail)
            go_wp2_with fail
            go_ret
            exact ⟨by rw [← HP.out, ← HQ.out, hfin.out]; rfl, bdrewN (bdrewN hb _) _⟩
        · obtain rfl : k = P.length := by omega
          have hfin := Lib.hid (show decide (cmpL P Q < 0) = false by rw [H.out, List.drop_length, ← HLN.out, List.drop_length]; rfl)
          clear H
          go_wp2_with fail
          go_ret
          exact ⟨by rw [← HP.out, ← HQ.out, hfin.out]; rfl, hb⟩
end Go.Proofs.YteliflcbegcdlaaGreatDoor

namespace Go.Proofs.YteliflcbegcdlaaGreatDoor
open Go.RowKit
set_option linter.unusedVariables false
/-- the value is a pair of slices of the call's own -/
def OwnG (B : Nat) (w : World) (v : Value) (X O : List Int) : Prop := ∃ A0 n0 c0 A1 n1 c1, v = .agg #[.slice A0 n0 c0, .slice A1 n1 c1] ∧ OwnI 3 B w (.slice A0 n0 c0) X ∧ OwnI 3 B w (.slice A1 n1 c1) O
theorem OwnI.far2 {e : TypeId} {base : Nat} {w : World} {v : Value} {xs : List Int} (h : OwnI e base w v xs) {r : Nat} (hr : r < base) {i j : Nat} {u u' : Value} : OwnI e base ((w.setCell ⟨r, i, none⟩ u).setCell ⟨r, j, none⟩ u') v xs :=
  ownsRow_setCell_below (a := ⟨r, j, none⟩) (ownsRow_setCell_below (a := ⟨r, i, none⟩) h hr u) hr u'
theorem OwnI.mono {e : TypeId} {base base' : Nat} {w : World} {v : Value} {xs : List Int} (h : OwnI e base w v xs) (hb : base' ≤ base) : OwnI e base' w v xs := by
  refine ⟨h.1, ?_⟩
  rcases h.2 with h0 | ⟨g, cap, cur, e1, hg, r⟩
  · exact .inl h0
  · exact .inr ⟨g, cap, cur, e1, by omega, r⟩
set_option maxHeartbeats 2000000 in
theorem remove_any (vx vo : Value) (X O : List Int) (a : Nat) (w : World) (hX : Ints w vx X) (hO : Ints w vo O) (hl : X.length ≤ 1000) (hl' : O.length ≤ 1000) (ha : a < X.length) (hb : a < O.length) (hx : ∀ x ∈ X, -1000 ≤ x ∧ x ≤ 1000) (ho : ∀ x ∈ O, -1000 ≤ x ∧ x ≤ 1000) :
    Calls Tryz.prog 86 #[.agg #[vx, vo], .int .i64 a] w fun e w' => ∃ v, e = .returned v ∧ OwnG w.heap.size w' v (delL X a (minG X[a] O[a])) (delL O a (minG X[a] O[a])) ∧ Below w.heap.size w w' := by
  have hX0 := hX
  have hO0 := hO
  obtain ⟨A, c, rfl, hc, hh⟩ := hX
  obtain ⟨A', c', rfl, hc', hh'⟩ := hO
  clear hh hh'
  obtain ⟨b1, o1, rfl, hlt, c1⟩ := hX0.at_ ha
  obtain ⟨b2, o2, rfl, hlt', c2⟩ := hO0.at_ hb
  have hmm : (if O[a] < X[a] then O[a] else X[a]) = minG X[a] O[a] := rfl
  generalize hlow : minG X[a] O[a] = low at *
  have HM := Lib.hid hmm
  clear hmm hlow
  have ev : ∀ (l : List Int) (r : Int), (l.take a ++ l.drop (a + 1)).map (lowr r) = delL l a r := fun l r => rfl
  have EV := Lib.hid ev
  clear ev
  go_enter Tryz.func86, Tryz.ntmps86
  go_upto_region 1 with fail
  have hW : Arr ((w.alloc (.cells #[.slice (some ⟨b1, o1, none⟩) X.length c, .slice (some ⟨b2, o2, none⟩) O.length c'] 24)).alloc (.cells #[.slice none 0 0, .slice none 0 0] 24)) w.heap.size 24 [.slice (some ⟨b1, o1, none⟩) X.length c, .slice (some ⟨b2, o2, none⟩) O.length c'] ∧ Arr ((w.alloc (.cells #[.slice (some ⟨b1, o1, none⟩) X.length c, .slice (some ⟨b2, o2, none⟩) O.length c'] 24)).alloc (.cells #[.slice none 0 0, .slice none 0 0] 24)) (w.heap.size + 1) 24 [.slice none 0 0, .slice none 0 0] ∧ Below w.heap.size w ((w.alloc (.cells #[.slice (some ⟨b1, o1, none⟩) X.length c, .slice (some ⟨b2, o2, none⟩) O.length c'] 24)).alloc (.cells #[.slice none 0 0, .slice none 0 0] 24)) :=
    ⟨(Arr.new _ _ [_, _]).alloc _, Arr.newAt (w.alloc _) _ [_, _] _ (by simp), ((Below.refl _ _).alloc (Nat.le_refl _) _).alloc (by simp) _⟩
  generalize ((w.alloc (.cells #[.slice (some ⟨b1, o1, none⟩) X.length c, .slice (some ⟨b2, o2, none⟩) O.length c'] 24)).alloc (.cells #[.slice none 0 0, .slice none 0 0] 24)) = w4 at hW ⊢
  obtain ⟨q0, q1, hb4⟩ := hW
  have d0 := q0.cell 0
  have d1 := q0.cell 1
  have e1 := (hb4.cell (p := ⟨b1, o1 + a, none⟩) hlt).trans c1
  have e2 := (hb4.cell (p := ⟨b2, o2 + a, none⟩) hlt').trans c2
  go_cut [5] (fun s5 wx => s5 = .int .i64 low ∧ Arr wx w.heap.size 24 [.slice (some ⟨b1, o1, none⟩) X.length c, .slice (some ⟨b2, o2, none⟩) O.length c'] ∧ Arr wx (w.heap.size + 1) 24 [.slice none 0 0, .slice none 0 0] ∧ Below w.heap.size w wx)
  case first =>
    go_quiet (fail)
    rw [HM.out]
    go_wp2_with fail
    go_meet
    exact ⟨rfl, q0.drewN _, q1.drewN _, bdrewN hb4 _⟩
  case rest =>
    clear d0 d1 e1 e2 c1 c2 q0 q1 hb4
    obtain ⟨rfl, p0, p1, hbw⟩ := hcut
    have y0 := p0.cell 0
    have y1 := p0.cell 1
    have l1 := p1.lt
    have KS0 := Lib.hid (show wc.drew.cell? ⟨w.heap.size, 0, none⟩ = some (.slice (some ⟨b1, o1, none⟩) X.length c) ∧ wc.drew.cell? ⟨w.heap.size, 1, none⟩ = some (.slice (some ⟨b2, o2, none⟩) O.length c') ∧ Below w.heap.size w wc.drew from ⟨y0, y1, hbw.drew⟩)
    have HJ := Lib.hid (fun W W' (hS : W.cell? ⟨w.heap.size, 0, none⟩ = some (.slice (some ⟨b1, o1, none⟩) X.length c) ∧ W.cell? ⟨w.heap.size, 1, none⟩ = some (.slice (some ⟨b2, o2, none⟩) O.length c') ∧ Below w.heap.size w W) (hb : Below W.heap.size W W') => (⟨(hb.cell (block_lt_of_cell hS.1)).trans hS.1, (hb.cell (block_lt_of_cell hS.2.1)).trans hS.2.1, hS.2.2.trans (hb.mono hS.2.2.size)⟩ : W'.cell? ⟨w.heap.size, 0, none⟩ = some (.slice (some ⟨b1, o1, none⟩) X.length c) ∧ W'.cell? ⟨w.heap.size, 1, none⟩ = some (.slice (some ⟨b2, o2, none⟩) O.length c') ∧ Below w.heap.size w W'))
    have KS2 := Lib.hid (fun W u u' (hS : W.cell? ⟨w.heap.size, 0, none⟩ = some (.slice (some ⟨b1, o1, none⟩) X.length c) ∧ W.cell? ⟨w.heap.size, 1, none⟩ = some (.slice (some ⟨b2, o2, none⟩) O.length c') ∧ Below w.heap.size w W) => (⟨(World.cell?_of_block (heap_set2 W (w.heap.size + 1) 0 1 w.heap.size u u' (by omega))).trans hS.1, (World.cell?_of_block (heap_set2 W (w.heap.size + 1) 0 1 w.heap.size u u' (by omega))).trans hS.2.1, bset2 (r := w.heap.size + 1) hS.2.2 (by omega)⟩ : ((W.setCell ⟨w.heap.size + 1, 0, none⟩ u).setCell ⟨w.heap.size + 1, 1, none⟩ u').cell? ⟨w.heap.size, 0, none⟩ = some (.slice (some ⟨b1, o1, none⟩) X.length c) ∧ ((W.setCell ⟨w.heap.size + 1, 0, none⟩ u).setCell ⟨w.heap.size + 1, 1, none⟩ u').cell? ⟨w.heap.size, 1, none⟩ = some (.slice (some ⟨b2, o2, none⟩) O.length c') ∧ Below w.heap.size w ((W.setCell ⟨w.heap.size + 1, 0, none⟩ u).setCell ⟨w.heap.size + 1, 1, none⟩ u')))
    have HWX := Lib.hid (fun W (hS : W.cell? ⟨w.heap.size, 0, none⟩ = some (.slice (some ⟨b1, o1, none⟩) X.length c) ∧ W.cell? ⟨w.heap.size, 1, none⟩ = some (.slice (some ⟨b2, o2, none⟩) O.length c') ∧ Below w.heap.size w W) => without_any (Value.slice (some ⟨b1, o1, none⟩) X.length c) X a W (hX0.below hS.2.2) hl ha)
    have HWO := Lib.hid (fun W (hS : W.cell? ⟨w.heap.size, 0, none⟩ = some (.slice (some ⟨b1, o1, none⟩) X.length c) ∧ W.cell? ⟨w.heap.size, 1, none⟩ = some (.slice (some ⟨b2, o2, none⟩) O.length c') ∧ Below w.heap.size w W) => without_any (Value.slice (some ⟨b2, o2, none⟩) O.length c') O a W (hO0.below hS.2.2) hl' hb)
    have HLX := Lib.hid (fun v W (h : Ints W v (X.take a ++ X.drop (a + 1))) => lower_any v _ low W h (by simp; omega) (fun x hx' => hx x (by rcases List.mem_append.1 hx' with h | h; exact List.mem_of_mem_take h; exact List.mem_of_mem_drop h)))
    have HLO := Lib.hid (fun v W (h : Ints W v (O.take a ++ O.drop (a + 1))) => lower_any v _ low W h (by simp; omega) (fun x hx' => ho x (by rcases List.mem_append.1 hx' with h | h; exact List.mem_of_mem_take h; exact List.mem_of_mem_drop h)))
    rw [EV.out] at HLX HLO
    go_wp2_with fail
    go_region_held3 (fun w' => w'.cell? ⟨w.heap.size, 0, none⟩ = some (.slice (some ⟨b1, o1, none⟩) X.length c) ∧ w'.cell? ⟨w.heap.size, 1, none⟩ = some (.slice (some ⟨b2, o2, none⟩) O.length c') ∧ Below w.heap.size w w') (first | exact KS0.out | exact hS1 | exact hS2 | exact hS3 | exact hS4 | exact KS2.out _ _ _ hS4)
      (first
        | (go_at_call_of 99 (Value.slice (some ⟨b1, o1, none⟩) X.length c); refine (HWX.out _ (by assumption)).mono ?_; rintro e w1 ⟨v1, rfl, hown1, hb1⟩; have hS1 := HJ.out _ _ (by assumption) hb1; have p11 := (Arr.drew p1).below hb1 (Arr.drew p1).lt; have i1 := hown1.ints; clear hown1 hb1)
        | (go_at_call_of 98 v1; refine (HLX.out _ _ i1).mono ?_; rintro e w2 ⟨v2, rfl, hown2, hb2⟩; have hS2 := HJ.out _ _ (by assumption) hb2; have p12 := p11.below hb2 p11.lt; have bs2 := p11.lt; clear hb2)
        | (go_at_call_of 99 (Value.slice (some ⟨b2, o2, none⟩) O.length c'); refine (HWO.out _ (by assumption)).mono ?_; rintro e w3 ⟨v3, rfl, hown3, hb3⟩; have hS3 := HJ.out _ _ (by assumption) hb3; have p13 := p12.below hb3 p12.lt; have hown2' := hown2.below hb3 (Nat.le_refl _); have i3 := hown3.ints; clear hown3 hb3)
        | (go_at_call_of 98 v3; refine (HLO.out _ _ i3).mono ?_; rintro e w5 ⟨v4, rfl, hown4, hb4⟩; have hS4 := HJ.out _ _ (by assumption) hb4; have p14 := p13.below hb4 p13.lt; have bs4 := p13.lt; have hown2'' := hown2'.below hb4 (Nat.le_refl _); obtain ⟨C0, m0, rfl⟩ := hown2''.form; obtain ⟨C1, m1, rfl⟩ := hown4.form; have s0 := p14.cell 0; have s1 := p14.cell 1; have s2 := p14.frozen 0; have s3 := p14.frozen 1))
    all_goals
      have hres := Lib.hid ((p14.set 0 (.slice C0 (delL X a low).length m0)).set 1 (.slice C1 (delL O a low).length m1))
      go_wp2_with fail
      refine bodyPost_ret (v := .agg #[.slice C0 (delL X a low).length m0, .slice C1 (delL O a low).length m1]) (results_c Tryz.results86 _ _ (w.heap.size + 1) 24 _ _ rfl hres.out Tryz.underlying24 rfl info_grid) rfl ?_
      exact ⟨_, rfl, ⟨_, _, _, _, _, _, rfl, (hown2''.far2 (r := w.heap.size + 1) bs2).mono (by omega), (hown4.far2 (r := w.heap.size + 1) bs4).mono (by omega)⟩, bset2 (r := w.heap.size + 1) hS4.2.2 (by omega)⟩
end Go.Proofs.YteliflcbegcdlaaGreatDoor

namespace Go.Proofs.YteliflcbegcdlaaGreatDoor
open Go.RowKit
set_option linter.unusedVariables false
/-- what holds in the first region of exchange, whatever has come up -/
structure ExI (B : Nat) (w4 : World) (vx vo : Value) (b : Nat) (X O : List Int) (D : Nat → Bool) (x : Nat → Value) (w : World) : Prop where
  bel : Below w4.heap.size w4 w
  f0 : D 0 = true → ∃ g, x 0 = .slice (some ⟨g, 0, none⟩) 0 0
  f1 : D 1 = true → x 1 = .pointer (some ⟨b, 0, none⟩)
  f2 : D 2 = true → x 2 = vx
  f3 : D 3 = true → OwnI 3 w4.heap.size w (x 3) X
  f4 : D 4 = true → ∃ g, x 4 = .slice (some ⟨g, 0, none⟩) 0 0
  f5 : D 5 = true → x 5 = .pointer (some ⟨b, 1, none⟩)
  f6 : D 6 = true → x 6 = vo
  f7 : D 7 = true → OwnI 3 w4.heap.size w (x 7) O
  f8 : D 8 = true → x 8 = .agg #[x 3, x 7]
  f9 : D 9 = true → ∃ g, x 9 = .pointer (some ⟨g, 0, none⟩) ∧ w4.heap.size ≤ g ∧ (D 10 = false → Arr w g 24 [.slice none 0 0, .slice none 0 0]) ∧ (D 10 = true → Arr w g 24 [x 3, x 7])
  f37 : D 3 = true → D 7 = true → (x 3).ownBlock ≠ (x 7).ownBlock
set_option maxRecDepth 100000 in
set_option maxHeartbeats 4000000 in
theorem exchange_any (vx vo : Value) (X O : List Int) (a : Nat) (w : World) (hX : Ints w vx X) (hO : Ints w vo O) (hl : X.length ≤ 1000) (hlen : X.length = O.length) (ha : a + 1 < X.length) :
    Calls Tryz.prog 84 #[.agg #[vx, vo], .int .i64 a] w fun e w' => ∃ v, e = .returned v ∧ OwnG w.heap.size w' v (swapL X a) (swapL O a) ∧ Below w.heap.size w w' := by
  obtain ⟨i0, hi0, hz0, hz1, hz2⟩ := info_parts info_int8
  have HL := Lib.hid hlen
  clear hlen
  have hX0 := hX
  have hO0 := hO
  obtain ⟨A, c, rfl, hc, hh⟩ := hX
  obtain ⟨A', c', rfl, hc', hh'⟩ := hO
  clear hh hh'
  go_enter Tryz.func84, Tryz.ntmps84
  go_upto_region 1 with fail
  have hW : Arr ((w.alloc (.cells #[.slice A X.length c, .slice A' O.length c'] 24)).alloc (.cells #[.slice none 0 0, .slice none 0 0] 24)) w.heap.size 24 [.slice A X.length c, .slice A' O.length c'] ∧ Arr ((w.alloc (.cells #[.slice A X.length c, .slice A' O.length c'] 24)).alloc (.cells #[.slice none 0 0, .slice none 0 0] 24)) (w.heap.size + 1) 24 [.slice none 0 0, .slice none 0 0] ∧ Below w.heap.size w ((w.alloc (.cells #[.slice A X.length c, .slice A' O.length c'] 24)).alloc (.cells #[.slice none 0 0, .slice none 0 0] 24)) :=
    ⟨(Arr.new _ _ [_, _]).alloc _, Arr.newAt (w.alloc _) _ [_, _] _ (by simp), ((Below.refl _ _).alloc (Nat.le_refl _) _).alloc (by simp) _⟩
  generalize ((w.alloc (.cells #[.slice A X.length c, .slice A' O.length c'] 24)).alloc (.cells #[.slice none 0 0, .slice none 0 0] 24)) = w4 at hW ⊢
  obtain ⟨p0, p1, hbw⟩ := hW
  have y0 := p0.cell 0
  have y1 := p0.cell 1
  have l1 := p1.lt
  go_cut [5, 9, 13] (fun s5 s9 s13 wx => ∃ g, s5 = .pointer (some ⟨g, 0, none⟩) ∧ Arr wx g 24 [s9, s13] ∧ w4.heap.size ≤ g ∧ OwnI 3 w4.heap.size wx s9 X ∧ OwnI 3 w4.heap.size wx s13 O ∧ s9.ownBlock ≠ s13.ownBlock ∧ Below w4.heap.size w4 wx)
  case first =>
    refine wp_region_factsU (by kernel_rfl) (by kernel_rfl) (by kernel_rfl) (by kernel_rfl) (by kernel_rfl) (ExI 0 w4 (.slice A X.length c) (.slice A' O.length c') w.heap.size X O) ?_ ⟨?_, ?_, ?_, ?_, ?_, ?_, ?_, ?_, ?_, ?_, ?_, trivial⟩ ?_
    · exact fun x => ⟨(Below.refl _ _).drew, by simp, by simp, by simp, by simp, by simp, by simp, by simp, by simp, by simp, by simp, by simp⟩
    · intro D x w1 b hI hD hdep hcl hb
      refine wp_of_run (.slice (some ⟨w1.heap.size, 0, none⟩) 0 0) (w' := w1.alloc (.cells #[] 3)) ?_ ?_
      · clear hb hI hdep hcl
        go_simp
      · exact ⟨hI.bel.trans (((Below.refl _ _).alloc (Nat.le_refl _) _).mono hI.bel.size), (fun _ => ⟨_, upd_same _ _ _⟩), (by have h9 := hI.f1; simpa [upd] using h9), (by have h9 := hI.f2; simpa [upd] using h9), (by have h9 := hI.f3; simp only [upd_ne _ _ (show (3 : Nat) ≠ 0 by decide)]; exact fun h => (h9 h).below ((Below.refl _ _).alloc (Nat.le_refl _) _) (Nat.le_refl _)), (by have h9 := hI.f4; simpa [upd] using h9), (by have h9 := hI.f5; simpa [upd] using h9), (by have h9 := hI.f6; simpa [upd] using h9), (by have h9 := hI.f7; simp only [upd_ne _ _ (show (7 : Nat) ≠ 0 by decide)]; exact fun h => (h9 h).below ((Below.refl _ _).alloc (Nat.le_refl _) _) (Nat.le_refl _)), (by have h9 := hI.f8; simpa [upd] using h9), (by have h9 := hI.f9; have e (j) (h : j ≠ 0) := upd_ne D true h; have e' (j) (h : j ≠ 0) (v) := upd_ne x v h; simp only [e 9 (by decide), e 10 (by decide), e' 9 (by decide), e' 3 (by decide), e' 7 (by decide)]; intro h; obtain ⟨g, h1, h2, h3, h4⟩ := h9 h; exact ⟨g, h1, h2, fun h => (h3 h).below ((Below.refl _ _).alloc (Nat.le_refl _) _) (h3 h).lt, fun h => (h4 h).below ((Below.refl _ _).alloc (Nat.le_refl _) _) (h4 h).lt⟩), (by have h9 := hI.f37; simpa [upd] using h9)⟩
    · intro D x w1 b hI hD hdep hcl hb
      have e2 : b.tmps[2]?.getD undef = .pointer (some ⟨w.heap.size, 0, none⟩) := hb 2
      refine wp_of_run (.pointer (some ⟨w.heap.size, 0, none⟩)) (w' := w1) ?_ ?_
      · clear hb hI hdep hcl
        go_simp
      · exact ⟨hI.bel, (by have h9 := hI.f0; simpa [upd] using h9), (fun _ => upd_same _ _ _), (by have h9 := hI.f2; simpa [upd] using h9), (by have h9 := hI.f3; simpa [upd] using h9), (by have h9 := hI.f4; simpa [upd] using h9), (by have h9 := hI.f5; simpa [upd] using h9), (by have h9 := hI.f6; simpa [upd] using h9), (by have h9 := hI.f7; simpa [upd] using h9), (by have h9 := hI.f8; simpa [upd] using h9), (by have h9 := hI.f9; simpa [upd] using h9), (by have h9 := hI.f37; simpa [upd] using h9)⟩
    · intro D x w1 b hI hD hdep hcl hb
      have e2 : b.tmps[7]?.getD undef = .pointer (some ⟨w.heap.size, 0, none⟩) := (hb 7).trans (hI.f1 (hdep 1 (by decide)))
      have ec := (hI.bel.cell (p := ⟨w.heap.size, 0, none⟩) p0.lt).trans y0
      refine wp_of_run (.slice A X.length c) (w' := w1) ?_ ?_
      · clear hb hI hdep hcl
        go_simp
      · exact ⟨hI.bel, (by have h9 := hI.f0; simpa [upd] using h9), (by have h9 := hI.f1; simpa [upd] using h9), (fun _ => upd_same _ _ _), (by have h9 := hI.f3; simpa [upd] using h9), (by have h9 := hI.f4; simpa [upd] using h9), (by have h9 := hI.f5; simpa [upd] using h9), (by have h9 := hI.f6; simpa [upd] using h9), (by have h9 := hI.f7; simpa [upd] using h9), (by have h9 := hI.f8; simpa [upd] using h9), (by have h9 := hI.f9; simpa [upd] using h9), (by have h9 := hI.f37; simpa [upd] using h9)⟩
    · intro D x w1 b hI hD hdep hcl hb
      obtain ⟨g, hg⟩ := hI.f0 (hdep 0 (by decide))
      have e1 : b.tmps[6]?.getD undef = .slice (some ⟨g, 0, none⟩) 0 0 := (hb 6).trans hg
      have e2 := (hb 8).trans (hI.f2 (hdep 2 (by decide)))
      have hne3 : 0 < X.length := by have := HL.out; omega
      have hle : X.length ≤ 1000000000 := by have := HL.out; omega
      refine wp_growI rfl (.tmp 6) (.tmp 8) 22 rfl Tryz.underlying22 hi0 hz0 hz1 hz2 g (by simpa [Act.eval] using e1) (by simpa [Act.eval] using e2) (hX0.below (hbw.trans (hI.bel.mono hbw.size))) hne3 hle ?_
      intro v' w' hown hb'
      refine StepPost.mk' ?_
      exact ⟨hI.bel.trans (hb'.mono hI.bel.size), (by have h9 := hI.f0; simpa [upd] using h9), (by have h9 := hI.f1; simpa [upd] using h9), (by have h9 := hI.f2; simpa [upd] using h9), (fun _ => by rw [upd_same]; exact hown.mono hI.bel.size), (by have h9 := hI.f4; simpa [upd] using h9), (by have h9 := hI.f5; simpa [upd] using h9), (by have h9 := hI.f6; simpa [upd] using h9), (by have h9 := hI.f7; simp only [upd_ne _ _ (show (7 : Nat) ≠ 3 by decide)]; exact fun h => (h9 h).below hb' (Nat.le_refl _)), (fun h => absurd (hcl 8 (by simpa [upd] using h) 3 (by decide)) (by simp [hD])), (by have h9 := hI.f9; simp only [upd_ne _ _ (show (9 : Nat) ≠ 3 by decide), upd_ne _ _ (show (10 : Nat) ≠ 3 by decide)]; intro h; obtain ⟨g, h1, h2, h3, h4⟩ := h9 h; exact ⟨g, h1, h2, fun h => (h3 h).below hb' (h3 h).lt, fun h => absurd (hcl 8 (hcl 10 h 8 (by decide)) 3 (by decide)) (by simp [hD])⟩), (by intro h; have ho := hI.f7; simp only [upd_same, upd_ne _ _ (show (7 : Nat) ≠ 3 by decide)]; intro h'; exact ownI_ne (ho (by simpa [upd] using h')) hown hne3)⟩
    · intro D x w1 b hI hD hdep hcl hb
      refine wp_of_run (.slice (some ⟨w1.heap.size, 0, none⟩) 0 0) (w' := w1.alloc (.cells #[] 3)) ?_ ?_
      · clear hb hI hdep hcl
        go_simp
      · exact ⟨hI.bel.trans (((Below.refl _ _).alloc (Nat.le_refl _) _).mono hI.bel.size), (by have h9 := hI.f0; simpa [upd] using h9), (by have h9 := hI.f1; simpa [upd] using h9), (by have h9 := hI.f2; simpa [upd] using h9), (by have h9 := hI.f3; simp only [upd_ne _ _ (show (3 : Nat) ≠ 4 by decide)]; exact fun h => (h9 h).below ((Below.refl _ _).alloc (Nat.le_refl _) _) (Nat.le_refl _)), (fun _ => ⟨_, upd_same _ _ _⟩), (by have h9 := hI.f5; simpa [upd] using h9), (by have h9 := hI.f6; simpa [upd] using h9), (by have h9 := hI.f7; simp only [upd_ne _ _ (show (7 : Nat) ≠ 4 by decide)]; exact fun h => (h9 h).below ((Below.refl _ _).alloc (Nat.le_refl _) _) (Nat.le_refl _)), (by have h9 := hI.f8; simpa [upd] using h9), (by have h9 := hI.f9; have e (j) (h : j ≠ 4) := upd_ne D true h; have e' (j) (h : j ≠ 4) (v) := upd_ne x v h; simp only [e 9 (by decide), e 10 (by decide), e' 9 (by decide), e' 3 (by decide), e' 7 (by decide)]; intro h; obtain ⟨g, h1, h2, h3, h4⟩ := h9 h; exact ⟨g, h1, h2, fun h => (h3 h).below ((Below.refl _ _).alloc (Nat.le_refl _) _) (h3 h).lt, fun h => (h4 h).below ((Below.refl _ _).alloc (Nat.le_refl _) _) (h4 h).lt⟩), (by have h9 := hI.f37; simpa [upd] using h9)⟩
    · intro D x w1 b hI hD hdep hcl hb
      have e2 : b.tmps[2]?.getD undef = .pointer (some ⟨w.heap.size, 0, none⟩) := hb 2
      refine wp_of_run (.pointer (some ⟨w.heap.size, 1, none⟩)) (w' := w1) ?_ ?_
      · clear hb hI hdep hcl
        go_simp
      · exact ⟨hI.bel, (by have h9 := hI.f0; simpa [upd] using h9), (by have h9 := hI.f1; simpa [upd] using h9), (by have h9 := hI.f2; simpa [upd] using h9), (by have h9 := hI.f3; simpa [upd] using h9), (by have h9 := hI.f4; simpa [upd] using h9), (fun _ => upd_same _ _ _), (by have h9 := hI.f6; simpa [upd] using h9), (by have h9 := hI.f7; simpa [upd] using h9), (by have h9 := hI.f8; simpa [upd] using h9), (by have h9 := hI.f9; simpa [upd] using h9), (by have h9 := hI.f37; simpa [upd] using h9)⟩
    · intro D x w1 b hI hD hdep hcl hb
      have e2 : b.tmps[11]?.getD undef = .pointer (some ⟨w.heap.size, 1, none⟩) := (hb 11).trans (hI.f5 (hdep 5 (by decide)))
      have ec := (hI.bel.cell (p := ⟨w.heap.size, 1, none⟩) p0.lt).trans y1
      refine wp_of_run (.slice A' O.length c') (w' := w1) ?_ ?_
      · clear hb hI hdep hcl
        go_simp
      · exact ⟨hI.bel, (by have h9 := hI.f0; simpa [upd] using h9), (by have h9 := hI.f1; simpa [upd] using h9), (by have h9 := hI.f2; simpa [upd] using h9), (by have h9 := hI.f3; simpa [upd] using h9), (by have h9 := hI.f4; simpa [upd] using h9), (by have h9 := hI.f5; simpa [upd] using h9), (fun _ => upd_same _ _ _), (by have h9 := hI.f7; simpa [upd] using h9), (by have h9 := hI.f8; simpa [upd] using h9), (by have h9 := hI.f9; simpa [upd] using h9), (by have h9 := hI.f37; simpa [upd] using h9)⟩
    · intro D x w1 b hI hD hdep hcl hb
      obtain ⟨g, hg⟩ := hI.f4 (hdep 4 (by decide))
      have e1 : b.tmps[10]?.getD undef = .slice (some ⟨g, 0, none⟩) 0 0 := (hb 10).trans hg
      have e2 := (hb 12).trans (hI.f6 (hdep 6 (by decide)))
      have hne7 : 0 < O.length := by have := HL.out; omega
      have hle : O.length ≤ 1000000000 := by have := HL.out; omega
      refine wp_growI rfl (.tmp 10) (.tmp 12) 22 rfl Tryz.underlying22 hi0 hz0 hz1 hz2 g (by simpa [Act.eval] using e1) (by simpa [Act.eval] using e2) (hO0.below (hbw.trans (hI.bel.mono hbw.size))) hne7 hle ?_
      intro v' w' hown hb'
      refine StepPost.mk' ?_
      exact ⟨hI.bel.trans (hb'.mono hI.bel.size), (by have h9 := hI.f0; simpa [upd] using h9), (by have h9 := hI.f1; simpa [upd] using h9), (by have h9 := hI.f2; simpa [upd] using h9), (by have h9 := hI.f3; simp only [upd_ne _ _ (show (3 : Nat) ≠ 7 by decide)]; exact fun h => (h9 h).below hb' (Nat.le_refl _)), (by have h9 := hI.f4; simpa [upd] using h9), (by have h9 := hI.f5; simpa [upd] using h9), (by have h9 := hI.f6; simpa [upd] using h9), (fun _ => by rw [upd_same]; exact hown.mono hI.bel.size), (fun h => absurd (hcl 8 (by simpa [upd] using h) 7 (by decide)) (by simp [hD])), (by have h9 := hI.f9; simp only [upd_ne _ _ (show (9 : Nat) ≠ 7 by decide), upd_ne _ _ (show (10 : Nat) ≠ 7 by decide)]; intro h; obtain ⟨g, h1, h2, h3, h4⟩ := h9 h; exact ⟨g, h1, h2, fun h => (h3 h).below hb' (h3 h).lt, fun h => absurd (hcl 8 (hcl 10 h 8 (by decide)) 7 (by decide)) (by simp [hD])⟩), (by intro h; have ho := hI.f3; simp only [upd_same, upd_ne _ _ (show (3 : Nat) ≠ 7 by decide)]; intro h'; exact (ownI_ne (ho (by simpa [upd] using h)) hown hne7).symm)⟩
    · intro D x w1 b hI hD hdep hcl hb
      have e1 : b.tmps[9]?.getD undef = x 3 := hb 9
      have e2 : b.tmps[13]?.getD undef = x 7 := hb 13
      refine wp_of_run (.agg #[x 3, x 7]) (w' := w1) ?_ ?_
      · obtain ⟨C0, m0, h0⟩ := (hI.f3 (hdep 3 (by decide))).form
        obtain ⟨C1, m1, h1⟩ := (hI.f7 (hdep 7 (by decide))).form
        rw [h0] at e1 ⊢
        rw [h1] at e2 ⊢
        clear hb hI hdep hcl h0 h1
        go_simp
      · exact ⟨hI.bel, (by have h9 := hI.f0; simpa [upd] using h9), (by have h9 := hI.f1; simpa [upd] using h9), (by have h9 := hI.f2; simpa [upd] using h9), (by have h9 := hI.f3; simpa [upd] using h9), (by have h9 := hI.f4; simpa [upd] using h9), (by have h9 := hI.f5; simpa [upd] using h9), (by have h9 := hI.f6; simpa [upd] using h9), (by have h9 := hI.f7; simpa [upd] using h9), (fun _ => by simp [upd]), (by have h9 := hI.f9; simpa [upd] using h9), (by have h9 := hI.f37; simpa [upd] using h9)⟩
    · intro D x w1 b hI hD hdep hcl hb
      refine wp_of_run (.pointer (some ⟨w1.heap.size, 0, none⟩)) (w' := w1.alloc (.cells #[.slice none 0 0, .slice none 0 0] 24)) ?_ ?_
      · clear hb hI hdep hcl
        go_simp
      · exact ⟨hI.bel.trans (((Below.refl _ _).alloc (Nat.le_refl _) _).mono hI.bel.size), (by have h9 := hI.f0; simpa [upd] using h9), (by have h9 := hI.f1; simpa [upd] using h9), (by have h9 := hI.f2; simpa [upd] using h9), (by have h9 := hI.f3; simp only [upd_ne _ _ (show (3 : Nat) ≠ 9 by decide)]; exact fun h => (h9 h).below ((Below.refl _ _).alloc (Nat.le_refl _) _) (Nat.le_refl _)), (by have h9 := hI.f4; simpa [upd] using h9), (by have h9 := hI.f5; simpa [upd] using h9), (by have h9 := hI.f6; simpa [upd] using h9), (by have h9 := hI.f7; simp only [upd_ne _ _ (show (7 : Nat) ≠ 9 by decide)]; exact fun h => (h9 h).below ((Below.refl _ _).alloc (Nat.le_refl _) _) (Nat.le_refl _)), (by have h9 := hI.f8; simpa [upd] using h9), (fun _ => ⟨_, upd_same _ _ _, hI.bel.size, fun _ => Arr.new _ _ [_, _], fun h => absurd (hcl 10 (by simpa [upd] using h) 9 (by decide)) (by simp [hD])⟩), (by have h9 := hI.f37; simpa [upd] using h9)⟩
    · intro D x w1 b hI hD hdep hcl hb
      obtain ⟨g, hg, hgb, harr, _⟩ := hI.f9 (hdep 9 (by decide))
      have ha := harr hD
      have e1 : b.tmps[5]?.getD undef = .pointer (some ⟨g, 0, none⟩) := (hb 5).trans hg
      have e2 : b.tmps[14]?.getD undef = .agg #[x 3, x 7] := (hb 14).trans (hI.f8 (hdep 8 (by decide)))
      have d3 := hcl 8 (hdep 8 (by decide)) 3 (by decide)
      have d7 := hcl 8 (hdep 8 (by decide)) 7 (by decide)
      obtain ⟨C0, m0, h0⟩ := (hI.f3 d3).form
      obtain ⟨C1, m1, h1⟩ := (hI.f7 d7).form
      have q0 := ha.cell 0
      have q1 := ha.cell 1
      have q2 := ha.frozen 0
      have q3 := ha.frozen 1
      have hne : ∀ (v : Value) (xs : List Int), OwnI 3 w4.heap.size w1 v xs → v.ownBlock ≠ some g := fun v xs h he => ownI_arr_ne h ha (by decide) he
      refine wp_of_skip (w' := (w1.setCell ⟨g, 0, none⟩ (x 3)).setCell ⟨g, 1, none⟩ (x 7)) ?_ ?_
      · rw [h0, h1] at e2 ⊢
        clear hb hI hdep hcl h0 h1 hne ha
        go_simp
      · have ar := (ha.set 0 (x 3)).set 1 (x 7)
        have o3 := (((hI.f3 d3).far (p := ⟨g, 0, none⟩) (hne _ _ (hI.f3 d3)) (x 3)).far (p := ⟨g, 1, none⟩) (hne _ _ (hI.f3 d3)) (x 7))
        have o7 := (((hI.f7 d7).far (p := ⟨g, 0, none⟩) (hne _ _ (hI.f7 d7)) (x 3)).far (p := ⟨g, 1, none⟩) (hne _ _ (hI.f7 d7)) (x 7))
        have bl := bset2 (r := g) hI.bel hgb (i := 0) (j := 1) (u := x 3) (v := x 7)
        exact ⟨bl, (by have h9 := hI.f0; simpa [upd] using h9), (by have h9 := hI.f1; simpa [upd] using h9), (by have h9 := hI.f2; simpa [upd] using h9), (fun _ => by simpa [upd] using o3), (by have h9 := hI.f4; simpa [upd] using h9), (by have h9 := hI.f5; simpa [upd] using h9), (by have h9 := hI.f6; simpa [upd] using h9), (fun _ => by simpa [upd] using o7), (by have h9 := hI.f8; simpa [upd] using h9), (fun _ => ⟨g, by simpa [upd] using hg, hgb, fun h => by simp [upd] at h, fun _ => by simpa [upd] using ar⟩), (by have h9 := hI.f37; simpa [upd] using h9)⟩
    · intro D x w1 hI hD
      have d3 := hD 3 (by decide)
      have d7 := hD 7 (by decide)
      obtain ⟨g, hg, hgb, _, harr⟩ := hI.f9 (hD 9 (by decide))
      simp only [putAll, dstOf, Act.put, List.map_cons, List.map_nil, List.setIfInBounds_toArray, List.set_cons_succ, List.set_cons_zero, Nat.reduceAdd]
      go_wp2_with fail
      go_meet
      exact ⟨g, hg, harr (hD 10 (by decide)), hgb, hI.f3 d3, hI.f7 d7, hI.f37 d3 d7, hI.bel⟩
  case rest =>
    obtain ⟨g, rfl, hA, hgb, h9, h13, hne, hbc⟩ := hcut
    obtain ⟨b1, o1, rfl, hlt1, c1⟩ := hX0.at_ (show a < X.length by omega)
    obtain ⟨b1', o1', e1', hlt1', c1'⟩ := hX0.at_ ha
    obtain ⟨rfl, rfl⟩ : b1 = b1' ∧ o1 = o1' := by simpa using e1'
    clear e1' hlt1'
    have haO : a + 1 < O.length := by have := HL.out; omega
    obtain ⟨b2, o2, rfl, hlt2, c2⟩ := hO0.at_ (show a < O.length by omega)
    obtain ⟨b2', o2', e2', hlt2', c2'⟩ := hO0.at_ haO
    obtain ⟨rfl, rfl⟩ : b2 = b2' ∧ o2 = o2' := by simpa using e2'
    clear e2' hlt2'
    have hw := hbw.trans (hbc.mono hbw.size)
    have hlO : 0 < O.length := by omega
    obtain ⟨gx, mx, rfl, gx1, gx2⟩ := h9.form1 (by omega)
    obtain ⟨go, mo, rfl, go1, go2⟩ := h13.form1 hlO
    have n1 : gx ≠ go := fun h => hne (by simp [Value.ownBlock, h])
    have n2 : gx ≠ g := fun h => ownI_arr_ne h9 hA (by decide) (by simp [Value.ownBlock, h])
    have n3 : go ≠ g := fun h => ownI_arr_ne h13 hA (by decide) (by simp [Value.ownBlock, h])
    clear hne
    have bl1 := p0.lt
    have gz := hA.lt
    have hwz := hbw.size
    have q0 := p0.below hbc p0.lt
    have q1 := p1.below hbc p1.lt
    clear p0 p1 y0 y1 hbc hbw
    have sw (l : List Int) (h : a + 1 < l.length) : (l.set a l[a + 1]).set (a + 1) (l[a]) = swapL l a := by simp [swapL, List.getD_eq_getElem?_getD, h, show a < l.length from by omega]
    have SW := Lib.hid sw
    clear sw
    go_wp2_with fail
    go_cut [5] (fun s5 wx => s5 = .pointer (some ⟨g, 0, none⟩) ∧ Arr wx g 24 [.slice (some ⟨gx, 0, none⟩) X.length mx, .slice (some ⟨go, 0, none⟩) O.length mo] ∧ OwnI 3 w4.heap.size wx (.slice (some ⟨gx, 0, none⟩) X.length mx) (swapL X a) ∧ OwnI 3 w4.heap.size wx (.slice (some ⟨go, 0, none⟩) O.length mo) O ∧ Arr wx w.heap.size 24 [.slice (some ⟨b1, o1, none⟩) X.length c, .slice (some ⟨b2, o2, none⟩) O.length c'] ∧ Arr wx (w.heap.size + 1) 24 [.slice none 0 0, .slice none 0 0] ∧ Below w.heap.size w wx)
    case first =>
      have r0 := hA.cell 0
      have y0 := q0.cell 0
      have z1 := (hw.cell (p := ⟨b1, o1 + a, none⟩) hlt1).trans c1
      have z1' := (hw.cell (p := ⟨b1, o1 + (a + 1), none⟩) hlt1).trans c1'
      obtain ⟨ka1, ka2⟩ := h9.at_ (show a < X.length by omega)
      obtain ⟨kb1, kb2⟩ := h9.at_ (show a + 1 < X.length by omega)
      have KS0 := Lib.hid (show wc.drew.cell? ⟨w.heap.size, 0, none⟩ = some (.slice (some ⟨b1, o1, none⟩) X.length c) ∧ wc.drew.cell? ⟨g, 0, none⟩ = some (.slice (some ⟨gx, 0, none⟩) X.length mx) ∧ wc.drew.cell? ⟨b1, o1 + a, none⟩ = some (.int .i64 X[a]) ∧ wc.drew.cell? ⟨b1, o1 + (a + 1), none⟩ = some (.int .i64 X[a + 1]) from ⟨y0, r0, z1, z1'⟩)
      have KS := Lib.hid (fun (W : World) (j : Nat) (u : Value) (hS : W.cell? ⟨w.heap.size, 0, none⟩ = some (.slice (some ⟨b1, o1, none⟩) X.length c) ∧ W.cell? ⟨g, 0, none⟩ = some (.slice (some ⟨gx, 0, none⟩) X.length mx) ∧ W.cell? ⟨b1, o1 + a, none⟩ = some (.int .i64 X[a]) ∧ W.cell? ⟨b1, o1 + (a + 1), none⟩ = some (.int .i64 X[a + 1])) => (⟨(cell_far (by show w.heap.size ≠ gx; omega) u).trans hS.1, (cell_far (by show g ≠ gx; omega) u).trans hS.2.1, (cell_far (by show b1 ≠ gx; omega) u).trans hS.2.2.1, (cell_far (by show b1 ≠ gx; omega) u).trans hS.2.2.2⟩ : (W.setCell ⟨gx, j, none⟩ u).cell? ⟨w.heap.size, 0, none⟩ = some (.slice (some ⟨b1, o1, none⟩) X.length c) ∧ (W.setCell ⟨gx, j, none⟩ u).cell? ⟨g, 0, none⟩ = some (.slice (some ⟨gx, 0, none⟩) X.length mx) ∧ (W.setCell ⟨gx, j, none⟩ u).cell? ⟨b1, o1 + a, none⟩ = some (.int .i64 X[a]) ∧ (W.setCell ⟨gx, j, none⟩ u).cell? ⟨b1, o1 + (a + 1), none⟩ = some (.int .i64 X[a + 1])))
      have j0 : (0 : Int) ≤ (a : Int) := by omega
      have j1 : (a : Int) < (X.length : Int) := by omega
      have j2 : (0 : Int) ≤ (a : Int) + 1 := by omega
      have j3 : (a : Int) + 1 < (X.length : Int) := by omega
      have j4 : ((a : Int) + 1).toNat = a + 1 := by omega
      have j5 : IntKind.i64.wrap ((a : Int) + 1) = (a : Int) + 1 := IntWalk.i64_in _ (by omega)
      go_wp2_with fail
      go_region_held3 (fun w' => w'.cell? ⟨w.heap.size, 0, none⟩ = some (.slice (some ⟨b1, o1, none⟩) X.length c) ∧ w'.cell? ⟨g, 0, none⟩ = some (.slice (some ⟨gx, 0, none⟩) X.length mx) ∧ w'.cell? ⟨b1, o1 + a, none⟩ = some (.int .i64 X[a]) ∧ w'.cell? ⟨b1, o1 + (a + 1), none⟩ = some (.int .i64 X[a + 1])) (first | exact KS0.out | exact KS.out _ _ _ KS0.out | exact KS.out _ _ _ (KS.out _ _ _ KS0.out)) (fail)
      go_wp2_with fail
      go_meet
      have sx := SW.out X ha
      refine ⟨rfl, (hA.far (p := ⟨gx, a, none⟩) (Ne.symm n2) _).far (p := ⟨gx, a + 1, none⟩) (Ne.symm n2) _, ?_, (h13.far (p := ⟨gx, a, none⟩) (by simp [Value.ownBlock]; omega) _).far (p := ⟨gx, a + 1, none⟩) (by simp [Value.ownBlock]; omega) _, (q0.far (p := ⟨gx, a, none⟩) (by show w.heap.size ≠ gx; omega) _).far (p := ⟨gx, a + 1, none⟩) (by show w.heap.size ≠ gx; omega) _, (q1.far (p := ⟨gx, a, none⟩) (by show w.heap.size + 1 ≠ gx; omega) _).far (p := ⟨gx, a + 1, none⟩) (by show w.heap.size + 1 ≠ gx; omega) _, (bset2 (r := gx) hw (by omega)).drew⟩
      rw [← sx]
      exact (h9.set a _).set (a + 1) _
    case rest =>
      clear hA h9 h13 q0 q1 hw gx2 go2 gz
      obtain ⟨rfl, hA, h9, h13, q0, q1, hw⟩ := hcut
      have gz := hA.lt
      go_wp2_with fail
      go_cut [5] (fun s5 wx => s5 = .pointer (some ⟨g, 0, none⟩) ∧ Arr wx g 24 [.slice (some ⟨gx, 0, none⟩) X.length mx, .slice (some ⟨go, 0, none⟩) O.length mo] ∧ OwnI 3 w4.heap.size wx (.slice (some ⟨gx, 0, none⟩) X.length mx) (swapL X a) ∧ OwnI 3 w4.heap.size wx (.slice (some ⟨go, 0, none⟩) O.length mo) (swapL O a) ∧ Arr wx (w.heap.size + 1) 24 [.slice none 0 0, .slice none 0 0] ∧ Below w.heap.size w wx)
      case first =>
        have r0 := hA.cell 1
        have y0 := q0.cell 1
        have z1 := (hw.cell (p := ⟨b2, o2 + a, none⟩) hlt2).trans c2
        have z1' := (hw.cell (p := ⟨b2, o2 + (a + 1), none⟩) hlt2).trans c2'
        obtain ⟨ka1, ka2⟩ := h13.at_ (show a < O.length by omega)
        obtain ⟨kb2, kb2⟩ := h13.at_ (show a + 1 < O.length by omega)
        have KS0 := Lib.hid (show wc.drew.cell? ⟨w.heap.size, 1, none⟩ = some (.slice (some ⟨b2, o2, none⟩) O.length c') ∧ wc.drew.cell? ⟨g, 1, none⟩ = some (.slice (some ⟨go, 0, none⟩) O.length mo) ∧ wc.drew.cell? ⟨b2, o2 + a, none⟩ = some (.int .i64 O[a]) ∧ wc.drew.cell? ⟨b2, o2 + (a + 1), none⟩ = some (.int .i64 O[a + 1]) from ⟨y0, r0, z1, z1'⟩)
        have KS := Lib.hid (fun (W : World) (j : Nat) (u : Value) (hS : W.cell? ⟨w.heap.size, 1, none⟩ = some (.slice (some ⟨b2, o2, none⟩) O.length c') ∧ W.cell? ⟨g, 1, none⟩ = some (.slice (some ⟨go, 0, none⟩) O.length mo) ∧ W.cell? ⟨b2, o2 + a, none⟩ = some (.int .i64 O[a]) ∧ W.cell? ⟨b2, o2 + (a + 1), none⟩ = some (.int .i64 O[a + 1])) => (⟨(cell_far (by show w.heap.size ≠ go; omega) u).trans hS.1, (cell_far (by show g ≠ go; omega) u).trans hS.2.1, (cell_far (by show b2 ≠ go; omega) u).trans hS.2.2.1, (cell_far (by show b2 ≠ go; omega) u).trans hS.2.2.2⟩ : (W.setCell ⟨go, j, none⟩ u).cell? ⟨w.heap.size, 1, none⟩ = some (.slice (some ⟨b2, o2, none⟩) O.length c') ∧ (W.setCell ⟨go, j, none⟩ u).cell? ⟨g, 1, none⟩ = some (.slice (some ⟨go, 0, none⟩) O.length mo) ∧ (W.setCell ⟨go, j, none⟩ u).cell? ⟨b2, o2 + a, none⟩ = some (.int .i64 O[a]) ∧ (W.setCell ⟨go, j, none⟩ u).cell? ⟨b2, o2 + (a + 1), none⟩ = some (.int .i64 O[a + 1])))
        have j0 : (0 : Int) ≤ (a : Int) := by omega
        have j1 : (a : Int) < (O.length : Int) := by omega
        have j2 : (0 : Int) ≤ (a : Int) + 1 := by omega
        have j3 : (a : Int) + 1 < (O.length : Int) := by omega
        have j4 : ((a : Int) + 1).toNat = a + 1 := by omega
        have j5 : IntKind.i64.wrap ((a : Int) + 1) = (a : Int) + 1 := IntWalk.i64_in _ (by omega)
        go_wp2_with fail
        go_region_held3 (fun w' => w'.cell? ⟨w.heap.size, 1, none⟩ = some (.slice (some ⟨b2, o2, none⟩) O.length c') ∧ w'.cell? ⟨g, 1, none⟩ = some (.slice (some ⟨go, 0, none⟩) O.length mo) ∧ w'.cell? ⟨b2, o2 + a, none⟩ = some (.int .i64 O[a]) ∧ w'.cell? ⟨b2, o2 + (a + 1), none⟩ = some (.int .i64 O[a + 1])) (first | exact KS0.out | exact KS.out _ _ _ KS0.out | exact KS.out _ _ _ (KS.out _ _ _ KS0.out)) (fail)
        go_wp2_with fail
        go_meet
        have sx := SW.out O haO
        refine ⟨rfl, (hA.far (p := ⟨go, a, none⟩) (Ne.symm n3) _).far (p := ⟨go, a + 1, none⟩) (Ne.symm n3) _, (h9.far (p := ⟨go, a, none⟩) (by simp [Value.ownBlock]; omega) _).far (p := ⟨go, a + 1, none⟩) (by simp [Value.ownBlock]; omega) _, ?_, (q1.far (p := ⟨go, a, none⟩) (by show w.heap.size + 1 ≠ go; omega) _).far (p := ⟨go, a + 1, none⟩) (by show w.heap.size + 1 ≠ go; omega) _, (bset2 (r := go) hw (by omega)).drew⟩
        rw [← sx]
        exact (h13.set a _).set (a + 1) _
      case rest =>
        clear hA h9 h13 q0 q1 hw gz SW
        obtain ⟨rfl, hA, h9, h13, q1, hw⟩ := hcut
        have r0 := hA.cell 0
        have r1 := hA.cell 1
        have s0 := q1.cell 0
        have s1 := q1.cell 1
        have s2 := q1.frozen 0
        have s3 := q1.frozen 1
        have hres := Lib.hid ((q1.set 0 (.slice (some ⟨gx, 0, none⟩) X.length mx)).set 1 (.slice (some ⟨go, 0, none⟩) O.length mo))
        go_wp2_with fail
        refine bodyPost_ret (v := .agg #[.slice (some ⟨gx, 0, none⟩) X.length mx, .slice (some ⟨go, 0, none⟩) O.length mo]) (results_c Tryz.results84 _ _ (w.heap.size + 1) 24 _ _ rfl hres.out Tryz.underlying24 rfl info_grid) rfl ?_
        exact ⟨_, rfl, ⟨_, _, _, _, _, _, rfl, (h9.far2 (r := w.heap.size + 1) l1).mono hwz, (h13.far2 (r := w.heap.size + 1) l1).mono hwz⟩, bset2 (r := w.heap.size + 1) hw (by omega)⟩
end Go.Proofs.YteliflcbegcdlaaGreatDoor

namespace Go.Proofs.YteliflcbegcdlaaGreatDoor
open Go.RowKit
set_option linter.unusedVariables false
/-- new memory, and writes to block z alone -/
structure Gro (B : Nat) (w w' : World) (z : Option Nat) : Prop where
  bel : Below B w w'
  keep : ∀ k, k < w.heap.size → z ≠ some k → w'.heap[k]? = w.heap[k]?
theorem Gro.size {B : Nat} {w w' : World} {z : Option Nat} (g : Gro B w w' z) : w.heap.size ≤ w'.heap.size := g.bel.size
theorem Gro.of_below {w w' : World} (h : Below w.heap.size w w') : Gro w.heap.size w w' none := ⟨h, fun k hk _ => h.block k hk⟩
theorem Gro.alloc (w : World) (o : Obj) : Gro w.heap.size w (w.alloc o) none := Gro.of_below ((Below.refl _ _).alloc (Nat.le_refl _) _)
theorem Gro.mono {B C : Nat} {w w' : World} {z : Option Nat} (g : Gro B w w' z) (h : C ≤ B) : Gro C w w' z := ⟨g.bel.mono h, g.keep⟩
theorem Arr.gro {B b : Nat} {w w' : World} {z : Option Nat} {t : TypeId} {cs : List Value} (h : Arr w b t cs) (g : Gro B w w' z) (hz : z ≠ some b) : Arr w' b t cs := (g.keep b h.lt hz).trans h
theorem OwnI.gro {B base : Nat} {e : TypeId} {w w' : World} {v : Value} {xs : List Int} {z : Option Nat} (h : OwnI e base w v xs) (g : Gro B w w' z) (hz : ∀ k, v.ownBlock = some k → z ≠ some k) : OwnI e base w' v xs := by
  refine ⟨h.1, ?_⟩
  rcases h.2 with h0 | ⟨b, cap, cur, rfl, hg, hh, r⟩
  · exact .inl h0
  · refine .inr ⟨b, cap, cur, rfl, hg, ?_, r⟩
    have hlt : b < w.heap.size := by
      rcases Nat.lt_or_ge b w.heap.size with hlt | hge
      · exact hlt
      · rw [Array.getElem?_eq_none hge] at hh; cases hh
    rw [g.keep b hlt (hz b rfl)]; exact hh
theorem OwnI.lt {base : Nat} {e : TypeId} {w : World} {v : Value} {xs : List Int} (h : OwnI e base w v xs) : ∀ k, v.ownBlock = some k → base ≤ k ∧ k < w.heap.size := by
  intro k hk
  rcases h.2 with ⟨rfl, h0⟩ | ⟨b, cap, cur, rfl, hg, hh, r⟩
  · simp [Value.ownBlock] at hk
  · simp [Value.ownBlock] at hk
    subst hk
    rcases Nat.lt_or_ge b w.heap.size with hlt | hge
    · exact ⟨hg, hlt⟩
    · rw [Array.getElem?_eq_none hge] at hh; cases hh
theorem OwnI.intsF {base : Nat} {e : TypeId} {w : World} {v : Value} {xs : List Int} (h : OwnI e base w v xs) : IntsF base w v xs := by
  intro W hW
  refine OwnI.ints (e := e) (base := base) ⟨h.1, ?_⟩
  rcases h.2 with h0 | ⟨b, cap, cur, rfl, hg, hh, r⟩
  · exact .inl h0
  · refine .inr ⟨b, cap, cur, rfl, hg, ?_, r⟩
    rw [hW b hg (h.lt b rfl).2]; exact hh
section
variable {P : Program} {w : World} {e : TypeId} {base : Nat} {v : Value} {xs : List Int}
theorem wp_appG {o : Oper} {a : Act} {K : Act → World → Prop} {Q : Exit → Act → World → Prop} (s x : Operand) (t : TypeId) (ho : o.op = .call { callee := .builtin .append, args := #[s, x], argTypes := #[t, t] })
    {i : TypeInfo} (ht : P.underlying t = some (.slice e)) (hi : P.info? e = some i) (hz : i.zero = some (.int .i64 0)) (hs : i.size = 1) (hby : i.bytes = 8)
    (hv : a.eval s = v) (h : OwnI e base w v xs) {ad : Addr} {c : Nat} {ys : List Int} (hx : a.eval x = .slice (some ad) ys.length c) (hu : Ints w (.slice (some ad) ys.length c) ys) (hlen : xs.length + ys.length ≤ 1000000000) (hbase : base ≤ w.heap.size)
    (hK : ∀ v' w', OwnI e base w' v' (xs ++ ys) → Gro base w w' v.ownBlock → (v'.ownBlock = v.ownBlock ∨ v'.ownBlock = some w.heap.size) → K (a.put o.dst v') w') : o.wp P a w K Q := by
  obtain ⟨A, c', he, hc, hx'⟩ := hu
  injection he with e1 e2 e3
  subst e1
  have hcells : ∀ j q, (ys.map (Value.int .i64))[j]? = some q → w.cell? (ad.add j) = some q := by
    intro j q hq
    rw [List.getElem?_map] at hq
    cases hy : ys[j]? with
    | none => rw [hy] at hq; cases hq
    | some y =>
      rw [hy] at hq
      injection hq with hq
      obtain ⟨b, o, hA, hcell⟩ := hx' j y hy
      injection hA with hA
      subst hA
      rw [← hq]
      have : (⟨b, o, none⟩ : Addr).add j = ⟨b, o + j, none⟩ := by unfold Addr.add; split <;> simp_all
      rw [this]; exact hcell
  obtain ⟨v', w', hrun, h2, h3, _, h5⟩ := run_append_own_at (P := P) w base t o.type e i (.int .i64 0) 1 8 ht hi hz hs hby rfl (by decide) v xs.length (xs.map (Value.int .i64)) h ad ys.length c (ys.map (Value.int .i64)) (by simp) hcells
    (by intro q hq; obtain ⟨y, _, rfl⟩ := List.mem_map.1 hq; rfl) (by unfold maxLen; omega) (by omega) hbase
  unfold Oper.wp execOp
  simp only [ho, resolve, invoke, builtin, Sem.run_bind, Sem.run_pure, Result.andThen_ok, List.map_toArray, List.map_cons, List.map_nil, hv, hx, hrun]
  refine hK v' w' ?_ ⟨(Below.refl _ _).grown h3 hbase h.block, fun k hk hne => h3.block k hk (fun e => hne e.symm)⟩ h5
  unfold OwnI
  rw [List.length_append, List.map_append]
  exact h2
end
/-- the rows of these operations are there -/
def ltF (L : List Nat) (D : Nat → Bool) (x : Nat → Value) (w : World) : Prop := ∀ p ∈ L, D p = true → ∀ k, (x p).ownBlock = some k → k < w.heap.size
/-- the rows of the first operations lie apart from those of the second ones -/
def crF (L M : List Nat) (D : Nat → Bool) (x : Nat → Value) : Prop := ∀ p ∈ L, ∀ q ∈ M, D p = true → D q = true → ∀ k, (x p).ownBlock = some k → (x q).ownBlock ≠ some k
section
variable {L M : List Nat} {D : Nat → Bool} {x : Nat → Value} {w w' : World} {i : Nat} {v : Value}
theorem ltF.upd (h : ltF L D x w) (hs : w.heap.size ≤ w'.heap.size) (hv : ∀ k, v.ownBlock = some k → k < w'.heap.size) : ltF L (upd D i true) (upd x i v) w' := by
  intro p hp hd k hk
  by_cases e : p = i
  · subst e; rw [upd_same] at hk; exact hv k hk
  · rw [upd_ne _ _ e] at hk hd
    exact Nat.lt_of_lt_of_le (h p hp hd k hk) hs
theorem ltF.skip (h : ltF L D x w) (hs : w.heap.size ≤ w'.heap.size) (hi : i ∉ L) : ltF L (Go.Proofs.YteliflcbegcdlaaGreatDoor.upd D i true) (Go.Proofs.YteliflcbegcdlaaGreatDoor.upd x i v) w' := by
  intro p hp hd k hk
  have e : p ≠ i := fun e => hi (e ▸ hp)
  rw [upd_ne _ _ e] at hk hd
  exact Nat.lt_of_lt_of_le (h p hp hd k hk) hs
theorem crF.skip (h : crF L M D x) (hi : i ∉ L) (hj : i ∉ M) : crF L M (upd D i true) (upd x i v) := by
  intro p hp q hq hd hd' k hk
  have e : p ≠ i := fun e => hi (e ▸ hp)
  have e' : q ≠ i := fun e => hj (e ▸ hq)
  rw [upd_ne _ _ e] at hk hd
  rw [upd_ne _ _ e'] at hd' ⊢
  exact h p hp q hq hd hd' k hk
theorem crF.left (h : crF L M D x) (hl : ltF M D x w) (hi : i ∉ M) (hv : ∀ k, v.ownBlock = some k → w.heap.size ≤ k ∨ ∃ p ∈ L, D p = true ∧ (x p).ownBlock = some k) : crF L M (upd D i true) (upd x i v) := by
  intro p hp q hq hd hd' k hk
  have e' : q ≠ i := fun e => hi (e ▸ hq)
  rw [upd_ne _ _ e'] at hd' ⊢
  by_cases e : p = i
  · subst e
    rw [upd_same] at hk
    rcases hv k hk with hv | ⟨p', hp', hd2, hk2⟩
    · intro hq2
      have := hl q hq hd' k hq2
      omega
    · exact h p' hp' q hq hd2 hd' k hk2
  · rw [upd_ne _ _ e] at hk hd
    exact h p hp q hq hd hd' k hk
theorem crF.right (h : crF L M D x) (hl : ltF L D x w) (hi : i ∉ L) (hv : ∀ k, v.ownBlock = some k → w.heap.size ≤ k ∨ ∃ p ∈ M, D p = true ∧ (x p).ownBlock = some k) : crF L M (upd D i true) (upd x i v) := by
  intro p hp q hq hd hd' k hk
  have e : p ≠ i := fun e => hi (e ▸ hp)
  rw [upd_ne _ _ e] at hd hk
  by_cases e' : q = i
  · subst e'
    rw [upd_same]
    intro hk'
    rcases hv k hk' with hv | ⟨q', hq', hd2, hk2⟩
    · have := hl p hp hd k hk
      omega
    · exact h p hp q' hq' hd hd2 k hk hk2
  · rw [upd_ne _ _ e'] at hd' ⊢
    exact h p hp q hq hd hd' k hk
end
end Go.Proofs.YteliflcbegcdlaaGreatDoor

namespace Go.Proofs.YteliflcbegcdlaaGreatDoor
open Go.RowKit
set_option linter.unusedVariables false
set_option maxHeartbeats 2000000 in
theorem add_any0 (vx vo : Value) (X O : List Int) (a r : Nat) (w : World) (hX : Ints w vx X) (hO : Ints w vo O) (hl : X.length ≤ 900) (hl' : O.length ≤ 900) (ha : a ≤ X.length) (hb : a ≤ O.length) (hr : r ≤ 1000) (hx : ∀ x ∈ X, -1000 ≤ x ∧ x ≤ 1000) (ho : ∀ x ∈ O, -1000 ≤ x ∧ x ≤ 1000) :
    Calls Tryz.prog 87 #[.agg #[vx, vo], .int .i64 a, .int .i64 r, .int .i64 0] w fun e w' => ∃ v, e = .returned v ∧ OwnG w.heap.size w' v (addL X a r false ((r : Int) + 1)) (addL O a r true (r : Int)) ∧ Below w.heap.size w w' := by
  have hX0 := hX
  have hO0 := hO
  obtain ⟨A, c, rfl, hc, hh⟩ := hX
  obtain ⟨A', c', rfl, hc', hh'⟩ := hO
  clear hh hh'
  go_enter Tryz.func87, Tryz.ntmps87
  go_upto_region 1 with fail
  have hW : Arr ((w.alloc (.cells #[.slice A X.length c, .slice A' O.length c'] 24)).alloc (.cells #[.slice none 0 0, .slice none 0 0] 24)) w.heap.size 24 [.slice A X.length c, .slice A' O.length c'] ∧ Arr ((w.alloc (.cells #[.slice A X.length c, .slice A' O.length c'] 24)).alloc (.cells #[.slice none 0 0, .slice none 0 0] 24)) (w.heap.size + 1) 24 [.slice none 0 0, .slice none 0 0] ∧ Below w.heap.size w ((w.alloc (.cells #[.slice A X.length c, .slice A' O.length c'] 24)).alloc (.cells #[.slice none 0 0, .slice none 0 0] 24)) :=
    ⟨(Arr.new _ _ [_, _]).alloc _, Arr.newAt (w.alloc _) _ [_, _] _ (by simp), ((Below.refl _ _).alloc (Nat.le_refl _) _).alloc (by simp) _⟩
  generalize ((w.alloc (.cells #[.slice A X.length c, .slice A' O.length c'] 24)).alloc (.cells #[.slice none 0 0, .slice none 0 0] 24)) = w4 at hW ⊢
  obtain ⟨p0, p1, hbw⟩ := hW
  have y0 := p0.cell 0
  have y1 := p0.cell 1
  have l1 := p1.lt
  have KS := Lib.hid (fun W (hb : Below w4.heap.size w4 W) => (⟨(hb.cell p0.lt).trans y0, (hb.cell p0.lt).trans y1, hb⟩ : W.cell? ⟨w.heap.size, 0, none⟩ = some (.slice A X.length c) ∧ W.cell? ⟨w.heap.size, 1, none⟩ = some (.slice A' O.length c') ∧ Below w4.heap.size w4 W))
  have HJ := Lib.hid (fun W W' (hS : W.cell? ⟨w.heap.size, 0, none⟩ = some (.slice A X.length c) ∧ W.cell? ⟨w.heap.size, 1, none⟩ = some (.slice A' O.length c') ∧ Below w4.heap.size w4 W) (hb : Below W.heap.size W W') => Below.trans hS.2.2 (hb.mono hS.2.2.size))
  have HX := Lib.hid (fun W (hS : W.cell? ⟨w.heap.size, 0, none⟩ = some (.slice A X.length c) ∧ W.cell? ⟨w.heap.size, 1, none⟩ = some (.slice A' O.length c') ∧ Below w4.heap.size w4 W) => split_any (.slice A X.length c) X r false W (hX0.below (hbw.trans (Below.mono hS.2.2 hbw.size))) (by omega) hx)
  have HO := Lib.hid (fun W (hS : W.cell? ⟨w.heap.size, 0, none⟩ = some (.slice A X.length c) ∧ W.cell? ⟨w.heap.size, 1, none⟩ = some (.slice A' O.length c') ∧ Below w4.heap.size w4 W) => split_any (.slice A' O.length c') O r true W (hO0.below (hbw.trans (Below.mono hS.2.2 hbw.size))) (by omega) ho)
  go_cut [9, 10] (fun s9 s10 wx => Ints wx s9 (X.map (upr r false)) ∧ Ints wx s10 (O.map (upr r true)) ∧ Below w4.heap.size w4 wx)
  case first =>
    go_region_held3 (fun w' => w'.cell? ⟨w.heap.size, 0, none⟩ = some (.slice A X.length c) ∧ w'.cell? ⟨w.heap.size, 1, none⟩ = some (.slice A' O.length c') ∧ Below w4.heap.size w4 w') ((refine KS.out _ ?_; first | exact (Below.refl _ _).drew | exact Below.refl _ _ | exact hb2 | exact hb1))
      (first
        | (go_at_call_of 100 (Value.slice A X.length c); refine (HX.out _ (by assumption)).mono ?_; rintro e w1 ⟨v1, rfl, hown1, hb1'⟩; have hb1 := HJ.out _ _ (by assumption) hb1'; clear hb1')
        | (go_at_call_of 100 (Value.slice A' O.length c'); refine (HO.out _ (by assumption)).mono ?_; rintro e w2 ⟨v2, rfl, hown2, hb2'⟩; have hb2 := HJ.out _ _ (by assumption) hb2'; have hown1' := hown1.below hb2' (Nat.le_refl _); clear hb2'))
    all_goals
      go_wp2_with fail
      go_meet
      exact ⟨hown1'.ints, hown2.ints, hb2⟩
  case rest =>
    clear KS HJ HX HO y0 y1
    obtain ⟨i1, i2, hbc⟩ := hcut
    have hbw' := hbw.trans (hbc.mono hbw.size)
    have p1c := p1.below hbc p1.lt
    obtain ⟨A1, c1, rfl, j1, k1⟩ := id i1
    obtain ⟨A2, c2, rfl, j2, k2⟩ := id i2
    clear k1 k2
    rw [List.length_map] at i1 i2
    have e1 := Lib.hid (show ((X.map (upr r false)).take a ++ ((r : Int) + 1) :: (X.map (upr r false)).drop a) = addL X a r false ((r : Int) + 1) from rfl)
    have e2 := Lib.hid (show ((O.map (upr r true)).take a ++ (r : Int) :: (O.map (upr r true)).drop a) = addL O a r true (r : Int) from rfl)
    go_wp2_with fail
    refine (insert_any _ (X.map (upr r false)) a _ _ i1 (by simp; omega) (by simp; omega)).mono ?_
    rw [e1.out]
    rintro e w6 ⟨v6, rfl, hown6, hb6⟩
    have hbx := hbw'.trans (hb6.mono hbw'.size)
    have p6 := p1c.below hb6 p1c.lt
    have i2' := i2.below hb6
    have lc := p1c.lt
    clear hb6 i1 i2
    go_wp2_with fail
    refine (insert_any _ (O.map (upr r true)) a _ _ i2' (by simp; omega) (by simp; omega)).mono ?_
    rw [e2.out]
    rintro e w7 ⟨v7, rfl, hown7, hb7⟩
    have hby := hbx.trans (hb7.mono hbx.size)
    have p7 := p6.below hb7 p6.lt
    have hown6' := hown6.below hb7 (Nat.le_refl _)
    have l6 := p6.lt
    clear hb7 hown6
    obtain ⟨C0, m0, rfl⟩ := hown6'.form
    obtain ⟨C1, m1, rfl⟩ := hown7.form
    have s0 := p7.cell 0
    have s1 := p7.cell 1
    have s2 := p7.frozen 0
    have s3 := p7.frozen 1
    have hres := Lib.hid ((p7.set 0 (.slice C0 (addL X a r false ((r : Int) + 1)).length m0)).set 1 (.slice C1 (addL O a r true (r : Int)).length m1))
    go_wp2_with fail
    refine bodyPost_ret (v := .agg #[.slice C0 (addL X a r false ((r : Int) + 1)).length m0, .slice C1 (addL O a r true (r : Int)).length m1]) (results_c Tryz.results87 _ _ (w.heap.size + 1) 24 _ _ rfl hres.out Tryz.underlying24 rfl info_grid) rfl ?_
    exact ⟨_, rfl, ⟨_, _, _, _, _, _, rfl, (hown6'.far2 (r := w.heap.size + 1) lc).mono (by omega), (hown7.far2 (r := w.heap.size + 1) l6).mono (by omega)⟩, bset2 (r := w.heap.size + 1) hby (by omega)⟩
set_option maxHeartbeats 2000000 in
theorem add_any1 (vx vo : Value) (X O : List Int) (a r : Nat) (w : World) (hX : Ints w vx X) (hO : Ints w vo O) (hl : X.length ≤ 900) (hl' : O.length ≤ 900) (ha : a ≤ X.length) (hb : a ≤ O.length) (hr : r ≤ 1000) (hx : ∀ x ∈ X, -1000 ≤ x ∧ x ≤ 1000) (ho : ∀ x ∈ O, -1000 ≤ x ∧ x ≤ 1000) :
    Calls Tryz.prog 87 #[.agg #[vx, vo], .int .i64 a, .int .i64 r, .int .i64 1] w fun e w' => ∃ v, e = .returned v ∧ OwnG w.heap.size w' v (addL X a r true (r : Int)) (addL O a r false ((r : Int) + 1)) ∧ Below w.heap.size w w' := by
  have hX0 := hX
  have hO0 := hO
  obtain ⟨A, c, rfl, hc, hh⟩ := hX
  obtain ⟨A', c', rfl, hc', hh'⟩ := hO
  clear hh hh'
  go_enter Tryz.func87, Tryz.ntmps87
  go_upto_region 1 with fail
  have hW : Arr ((w.alloc (.cells #[.slice A X.length c, .slice A' O.length c'] 24)).alloc (.cells #[.slice none 0 0, .slice none 0 0] 24)) w.heap.size 24 [.slice A X.length c, .slice A' O.length c'] ∧ Arr ((w.alloc (.cells #[.slice A X.length c, .slice A' O.length c'] 24)).alloc (.cells #[.slice none 0 0, .slice none 0 0] 24)) (w.heap.size + 1) 24 [.slice none 0 0, .slice none 0 0] ∧ Below w.heap.size w ((w.alloc (.cells #[.slice A X.length c, .slice A' O.length c'] 24)).alloc (.cells #[.slice none 0 0, .slice none 0 0] 24)) :=
    ⟨(Arr.new _ _ [_, _]).alloc _, Arr.newAt (w.alloc _) _ [_, _] _ (by simp), ((Below.refl _ _).alloc (Nat.le_refl _) _).alloc (by simp) _⟩
  generalize ((w.alloc (.cells #[.slice A X.length c, .slice A' O.length c'] 24)).alloc (.cells #[.slice none 0 0, .slice none 0 0] 24)) = w4 at hW ⊢
  obtain ⟨p0, p1, hbw⟩ := hW
  have y0 := p0.cell 0
  have y1 := p0.cell 1
  have l1 := p1.lt
  have KS := Lib.hid (fun W (hb : Below w4.heap.size w4 W) => (⟨(hb.cell p0.lt).trans y0, (hb.cell p0.lt).trans y1, hb⟩ : W.cell? ⟨w.heap.size, 0, none⟩ = some (.slice A X.length c) ∧ W.cell? ⟨w.heap.size, 1, none⟩ = some (.slice A' O.length c') ∧ Below w4.heap.size w4 W))
  have HJ := Lib.hid (fun W W' (hS : W.cell? ⟨w.heap.size, 0, none⟩ = some (.slice A X.length c) ∧ W.cell? ⟨w.heap.size, 1, none⟩ = some (.slice A' O.length c') ∧ Below w4.heap.size w4 W) (hb : Below W.heap.size W W') => Below.trans hS.2.2 (hb.mono hS.2.2.size))
  have HX := Lib.hid (fun W (hS : W.cell? ⟨w.heap.size, 0, none⟩ = some (.slice A X.length c) ∧ W.cell? ⟨w.heap.size, 1, none⟩ = some (.slice A' O.length c') ∧ Below w4.heap.size w4 W) => split_any (.slice A X.length c) X r true W (hX0.below (hbw.trans (Below.mono hS.2.2 hbw.size))) (by omega) hx)
  have HO := Lib.hid (fun W (hS : W.cell? ⟨w.heap.size, 0, none⟩ = some (.slice A X.length c) ∧ W.cell? ⟨w.heap.size, 1, none⟩ = some (.slice A' O.length c') ∧ Below w4.heap.size w4 W) => split_any (.slice A' O.length c') O r false W (hO0.below (hbw.trans (Below.mono hS.2.2 hbw.size))) (by omega) ho)
  go_cut [9, 10] (fun s9 s10 wx => Ints wx s9 (X.map (upr r true)) ∧ Ints wx s10 (O.map (upr r false)) ∧ Below w4.heap.size w4 wx)
  case first =>
    go_region_held3 (fun w' => w'.cell? ⟨w.heap.size, 0, none⟩ = some (.slice A X.length c) ∧ w'.cell? ⟨w.heap.size, 1, none⟩ = some (.slice A' O.length c') ∧ Below w4.heap.size w4 w') ((refine KS.out _ ?_; first | exact (Below.refl _ _).drew | exact Below.refl _ _ | exact hb2 | exact hb1))
      (first
        | (go_at_call_of 100 (Value.slice A X.length c); refine (HX.out _ (by assumption)).mono ?_; rintro e w1 ⟨v1, rfl, hown1, hb1'⟩; have hb1 := HJ.out _ _ (by assumption) hb1'; clear hb1')
        | (go_at_call_of 100 (Value.slice A' O.length c'); refine (HO.out _ (by assumption)).mono ?_; rintro e w2 ⟨v2, rfl, hown2, hb2'⟩; have hb2 := HJ.out _ _ (by assumption) hb2'; have hown1' := hown1.below hb2' (Nat.le_refl _); clear hb2'))
    all_goals
      go_wp2_with fail
      go_meet
      exact ⟨hown1'.ints, hown2.ints, hb2⟩
  case rest =>
    clear KS HJ HX HO y0 y1
    obtain ⟨i1, i2, hbc⟩ := hcut
    have hbw' := hbw.trans (hbc.mono hbw.size)
    have p1c := p1.below hbc p1.lt
    obtain ⟨A1, c1, rfl, j1, k1⟩ := id i1
    obtain ⟨A2, c2, rfl, j2, k2⟩ := id i2
    clear k1 k2
    rw [List.length_map] at i1 i2
    have e1 := Lib.hid (show ((X.map (upr r true)).take a ++ (r : Int) :: (X.map (upr r true)).drop a) = addL X a r true (r : Int) from rfl)
    have e2 := Lib.hid (show ((O.map (upr r false)).take a ++ ((r : Int) + 1) :: (O.map (upr r false)).drop a) = addL O a r false ((r : Int) + 1) from rfl)
    go_wp2_with fail
    refine (insert_any _ (X.map (upr r true)) a _ _ i1 (by simp; omega) (by simp; omega)).mono ?_
    rw [e1.out]
    rintro e w6 ⟨v6, rfl, hown6, hb6⟩
    have hbx := hbw'.trans (hb6.mono hbw'.size)
    have p6 := p1c.below hb6 p1c.lt
    have i2' := i2.below hb6
    have lc := p1c.lt
    clear hb6 i1 i2
    go_wp2_with fail
    refine (insert_any _ (O.map (upr r false)) a _ _ i2' (by simp; omega) (by simp; omega)).mono ?_
    rw [e2.out]
    rintro e w7 ⟨v7, rfl, hown7, hb7⟩
    have hby := hbx.trans (hb7.mono hbx.size)
    have p7 := p6.below hb7 p6.lt
    have hown6' := hown6.below hb7 (Nat.le_refl _)
    have l6 := p6.lt
    clear hb7 hown6
    obtain ⟨C0, m0, rfl⟩ := hown6'.form
    obtain ⟨C1, m1, rfl⟩ := hown7.form
    have s0 := p7.cell 0
    have s1 := p7.cell 1
    have s2 := p7.frozen 0
    have s3 := p7.frozen 1
    have hres := Lib.hid ((p7.set 0 (.slice C0 (addL X a r true (r : Int)).length m0)).set 1 (.slice C1 (addL O a r false ((r : Int) + 1)).length m1))
    go_wp2_with fail
    refine bodyPost_ret (v := .agg #[.slice C0 (addL X a r true (r : Int)).length m0, .slice C1 (addL O a r false ((r : Int) + 1)).length m1]) (results_c Tryz.results87 _ _ (w.heap.size + 1) 24 _ _ rfl hres.out Tryz.underlying24 rfl info_grid) rfl ?_
    exact ⟨_, rfl, ⟨_, _, _, _, _, _, rfl, (hown6'.far2 (r := w.heap.size + 1) lc).mono (by omega), (hown7.far2 (r := w.heap.size + 1) l6).mono (by omega)⟩, bset2 (r := w.heap.size + 1) hby (by omega)⟩
end Go.Proofs.YteliflcbegcdlaaGreatDoor
