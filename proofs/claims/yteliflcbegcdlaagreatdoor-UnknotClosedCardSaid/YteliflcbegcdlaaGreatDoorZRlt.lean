/- The reference's functions that append: without, insert. -/
/- The reference's Less (layer 42). -/
/- package unknot: the classes that follow a class do not depend on the translation that is looked at (plain). -/
/- The least of all translations of a grid, as the reference looks for it (plain). -/
/- The reference's Least (layer 42): the least translation. -/
import Derived.Test.YteliflcbegcdlaaGreatDoorZRef1
import Derived.Deep.RegionHeld3
import Derived.Deep.RegionLaw
import Derived.WalkSpells
import Derived.Test.YteliflcbegcdlaaGreatDoorZRsa
import Derived.Test.YteliflcbegcdlaaGreatDoorZLst
import Derived.Test.YteliflcbegcdlaaGreatDoorZFmw
import Derived.Deep.DeepCutAuto
import Derived.IntWalk
namespace Go.Proofs.YteliflcbegcdlaaGreatDoor
open Go.RowKit
set_option linter.unusedVariables false
theorem OwnI.empty (w : World) (e : TypeId) : OwnI e w.heap.size (w.alloc (.cells #[] e)) (.slice (some ⟨w.heap.size, 0, none⟩) 0 0) [] :=
  ⟨rfl, .inr ⟨w.heap.size, 0, #[], rfl, Nat.le_refl _, heap_alloc_new w _, Nat.le_refl _, by unfold maxLen; omega, rfl, rfl⟩⟩
/-- s[lo:] as the walk spells it -/
theorem Ints.tail {w : World} {A : Option Addr} {c lo : Nat} {xs : List Int} (h : Ints w (.slice A xs.length c) xs) (h1 : lo + 1 ≤ xs.length + 1) (hc : xs.length ≤ c) :
    Ints w (.slice (if c = lo then A else Option.map (fun x => { block := x.block, off := x.off + lo }) A) (xs.length - lo) (c - lo)) (xs.drop lo) := by
  have := h.sub (lo := lo) (hi := xs.length) (by omega) (Nat.le_refl _) (c - lo) (by omega) (if c = lo then A else Option.map (fun x => { block := x.block, off := x.off + lo }) A) (fun hlt => by
    rw [if_neg (by omega)]
    by_cases h0 : lo = 0
    · subst h0
      obtain ⟨A0, c0, hv, _, hx⟩ := h
      injection hv with e1 _ _
      subst e1
      obtain ⟨b, o, rfl, _⟩ := hx 0 _ (List.getElem?_eq_getElem hlt)
      rfl
    · congr 1
      funext x
      simp [Addr.add, h0])
  rw [List.take_length] at this
  exact this
theorem Ints.tail' {w : World} {A : Option Addr} {c lo : Nat} {xs : List Int} (h : Ints w (.slice A xs.length c) xs) (h1 : lo + 1 ≤ xs.length + 1) (hc : xs.length ≤ c) :
    Ints w (.slice (if c = lo then A else Option.map (fun x => x.add lo) A) (xs.length - lo) (c - lo)) (xs.drop lo) := by
  have := h.sub (lo := lo) (hi := xs.length) (by omega) (Nat.le_refl _) (c - lo) (by omega) (if c = lo then A else Option.map (fun x => x.add lo) A) (fun hlt => by rw [if_neg (by omega)])
  rw [List.take_length] at this
  exact this
set_option maxRecDepth 100000 in
set_option maxHeartbeats 1000000 in
theorem without_any (vx : Value) (X : List Int) (a : Nat) (w : World) (hX : Ints w vx X) (hl : X.length ≤ 1000) (ha : a < X.length) :
    Calls Tryz.prog 99 #[vx, .int .i64 a] w fun e w' => ∃ v, e = .returned v ∧ OwnI 3 w.heap.size w' v (X.take a ++ X.drop (a + 1)) ∧ Below w.heap.size w w' := by
  obtain ⟨i0, hi0, hz0, hz1, hz2⟩ := info_parts info_int8
  have hX0 := hX
  obtain ⟨A, c, rfl, hc, hh⟩ := hX
  clear hh
  have ha1 : (a : Int) ≤ (c : Int) := by omega
  have ha2 : (a : Int) + 1 ≤ (X.length : Int) := by omega
  have ha3 : IntKind.i64.wrap ((a : Int) + 1) = (a : Int) + 1 := IntWalk.i64_in _ (by omega)
  have ha4 : (0 : Int) ≤ (a : Int) + 1 := by omega
  have ha5 : ((a : Int) + 1).toNat = a + 1 := by omega
  have hI1 : Ints w (.slice A a c) (X.take a) := by
    have := hX0.sub (lo := 0) (hi := a) (by omega) (by omega) c (by omega) A (fun _ => by cases A <;> rfl)
    simpa using this
  have HI1 := Lib.hid hI1
  clear hI1
  have HI2 := Lib.hid (Ints.tail hX0 (lo := a + 1) (by omega) hc)
  go_enter Tryz.func99, Tryz.ntmps99
  go_wp2_with fail
  go_region_law (first
    | (refine step_appI rfl (.tmp 5) (.tmp 8) 22 rfl Tryz.underlying22 hi0 hz0 hz1 hz2 rfl (OwnI.empty w _).drew rfl (HI1.out.alloc _).drew (by simp; omega) (by simp) ?_; intro v1 w1 hown1 hb1 hk1)
    | (refine step_appI rfl (.tmp 9) (.tmp 13) 22 rfl Tryz.underlying22 hi0 hz0 hz1 hz2 rfl hown1 rfl (HI2.out.below (((Below.refl _ _).alloc (Nat.le_refl _) _).drew.trans hb1)) (by simp; omega) (Nat.le_trans (by simp) hb1.size) ?_; intro v2 w2 hown2 hb2 hk2))
  go_wp2_with fail
  all_goals
    go_ret
    exact ⟨_, rfl, by simpa using hown2, (((Below.refl _ _).alloc (Nat.le_refl _) _).drew.trans hb1).trans hb2⟩
theorem keepA {w w1 : World} {E Y : Obj} (hk : ∀ k, k < ((w.alloc E).alloc Y).drew.heap.size → Value.ownBlock (.slice (some ⟨w.heap.size, 0, none⟩) 0 0) ≠ some k → w1.heap[k]? = ((w.alloc E).alloc Y).drew.heap[k]?) : w1.heap[w.heap.size + 1]? = some Y := by
  rw [hk (w.heap.size + 1) (by simp [heap_drew]) (by simp [Value.ownBlock])]
  show ((w.heap.push E).push Y)[w.heap.size + 1]? = some Y
  rw [Array.getElem?_push, if_pos (by simp)]
theorem keepB {w w1 : World} {E Y : Obj} (hk : ∀ k, k < ((w.alloc Y).alloc E).drew.heap.size → Value.ownBlock (.slice (some ⟨w.heap.size + 1, 0, none⟩) 0 0) ≠ some k → w1.heap[k]? = ((w.alloc Y).alloc E).drew.heap[k]?) : w1.heap[w.heap.size]? = some Y := by
  rw [hk w.heap.size (by simp [heap_drew]; omega) (by simp [Value.ownBlock])]
  show ((w.heap.push Y).push E)[w.heap.size]? = some Y
  rw [Array.getElem?_push, if_neg (by simp), Array.getElem?_push, if_pos rfl]
set_option maxRecDepth 100000 in
set_option maxHeartbeats 1000000 in
theorem insert_any (vx : Value) (X : List Int) (a : Nat) (y : Int) (w : World) (hX : Ints w vx X) (hl : X.length ≤ 1000) (ha : a ≤ X.length) :
    Calls Tryz.prog 101 #[vx, .int .i64 a, .int .i64 y] w fun e w' => ∃ v, e = .returned v ∧ OwnI 3 w.heap.size w' v (X.take a ++ y :: X.drop a) ∧ Below w.heap.size w w' := by
  obtain ⟨i0, hi0, hz0, hz1, hz2⟩ := info_parts info_int8
  have hX0 := hX
  obtain ⟨A, c, rfl, hc, hh⟩ := hX
  clear hh
  have ha1 : (a : Int) ≤ (c : Int) := by omega
  have ha2 : (a : Int) ≤ (X.length : Int) := by omega
  have hI1 : Ints w (.slice A a c) (X.take a) := by
    have := hX0.sub (lo := 0) (hi := a) (by omega) (by omega) c (by omega) A (fun _ => by cases A <;> rfl)
    simpa using this
  have HI1 := Lib.hid hI1
  clear hI1
  have HI2 := Lib.hid (Ints.tail' hX0 (lo := a) (by omega) hc)
  go_enter Tryz.func101, Tryz.ntmps101
  go_wp2_with fail
  go_region_law (first
    | (refine step_appI rfl (.tmp 7) (.tmp 10) 22 rfl Tryz.underlying22 hi0 hz0 hz1 hz2 rfl (OwnI.emptyAt (base := w.heap.size) (by omega) (by simp only [heap_push, heap_drew, Array.getElem?_push, Array.size_push]; repeat (first | rw [if_pos trivial] | rw [if_neg (by omega)]))) rfl (HI1.out.below (by repeat (first | exact Below.refl _ _ | refine Below.drew ?_ | refine Below.alloc ?_ (by simp <;> omega) _))) (by simp; omega) (by simp <;> omega) ?_; intro v1 w1 hown1 hb1 hk1; have hB1 : Below w.heap.size w w1 := Below.trans (by repeat (first | exact Below.refl _ _ | refine Below.drew ?_ | refine Below.alloc ?_ (by simp <;> omega) _)) hb1; (first | have hy := keepA hk1 | have hy := keepB hk1 | skip); clear hk1 hb1)
    | (refine step_appI rfl (.tmp 11) (.tmp 13) 22 rfl Tryz.underlying22 hi0 hz0 hz1 hz2 rfl hown1 rfl (Ints.of_arr (xs := [y]) hy) (by simp; omega) hB1.size ?_; intro v2 w2 hown2 hb2 hk2; have hB2 := hB1.trans hb2; clear hk2 hb2)
    | (refine step_appI rfl (.tmp 11) (.tmp 13) 22 rfl Tryz.underlying22 hi0 hz0 hz1 hz2 rfl (hown1.alloc _) rfl (Ints.one w1 _ y) (by simp; omega) (hB1.alloc hB1.size _).size ?_; intro v2 w2 hown2 hb2 hk2; have hB2 := (hB1.alloc hB1.size _).trans hb2; clear hk2 hb2)
    | (refine step_appI rfl (.tmp 14) (.tmp 17) 22 rfl Tryz.underlying22 hi0 hz0 hz1 hz2 rfl hown2 rfl (HI2.out.below hB2) (by simp; omega) hB2.size ?_; intro v3 w3 hown3 hb3 hk3; have hB3 := hB2.trans hb3; clear hk3 hb3))
  all_goals
    go_wp2_with fail
    all_goals
      go_ret
      exact ⟨_, rfl, by simpa using hown3, hB3⟩
end Go.Proofs.YteliflcbegcdlaaGreatDoor

namespace Go.Proofs.YteliflcbegcdlaaGreatDoor
open Go.RowKit
set_option linter.unusedVariables false
set_option maxHeartbeats 2000000 in
theorem refLess_any (va vb vc vd : Value) (X O Y R : List Int) (w : World) (hX : Ints w va X) (hO : Ints w vb O) (hY : Ints w vc Y) (hR : Ints w vd R) (l1 : X.length ≤ 1000) (l2 : O.length ≤ 1000) (l3 : Y.length = X.length) (l4 : R.length = O.length) :
    Calls Tryz.prog 42 #[.agg #[va, vb], .agg #[vc, vd]] w fun e w' => e = .returned (.bool (decide (cmpL (X ++ O) (Y ++ R) < 0))) ∧ Below w.heap.size w w' := by
  obtain ⟨i0, hi0, hz0, hz1, hz2⟩ := info_parts info_int8
  have hX0 := hX
  have hO0 := hO
  have hY0 := hY
  have hR0 := hR
  have L3 := Lib.hid l3
  have L4 := Lib.hid l4
  clear l3 l4
  obtain ⟨A, c, rfl, -, -⟩ := hX
  obtain ⟨A1, c1, rfl, -, -⟩ := hO
  obtain ⟨A2, c2, rfl, -, -⟩ := hY
  obtain ⟨A3, c3, rfl, -, -⟩ := hR
  go_enter Tryz.func42, Tryz.ntmps42
  go_upto_region 1 with fail
  have hW : ∀ W, W = ((w.alloc (.cells #[.slice A X.length c, .slice A1 O.length c1] 24)).alloc (.cells #[.slice A2 Y.length c2, .slice A3 R.length c3] 24)) → Arr W w.heap.size 24 [.slice A X.length c, .slice A1 O.length c1] ∧ Arr W (w.heap.size + 1) 24 [.slice A2 Y.length c2, .slice A3 R.length c3] ∧ Below w.heap.size w W := by
    rintro W rfl
    exact ⟨(Arr.new _ _ [_, _]).alloc _, Arr.newAt (w.alloc _) _ [_, _] _ (by simp), ((Below.refl _ _).alloc (Nat.le_refl _) _).alloc (by simp) _⟩
  generalize ((w.alloc (.cells #[.slice A X.length c, .slice A1 O.length c1] 24)).alloc (.cells #[.slice A2 Y.length c2, .slice A3 R.length c3] 24)) = w2 at hW ⊢
  obtain ⟨q1, q2, hb2⟩ := hW w2 rfl
  have HX2 := Lib.hid (hX0.below hb2)
  have HO2 := Lib.hid (hO0.below hb2)
  have lq := q1.lt
  clear hW hX0 hO0
  have y0 := q1.cell 0
  have y1 := q1.cell 1
  go_cut [5] (fun s5 wx => OwnI 3 w2.heap.size wx s5 (X ++ O) ∧ Below w2.heap.size w2 wx)
  case first =>
    go_region_law (first
      | (refine step_appI rfl (.tmp 8) (.tmp 10) 22 rfl Tryz.underlying22 hi0 hz0 hz1 hz2 rfl (OwnI.emptyAt (base := w2.heap.size) (by omega) (by simp only [heap_push, heap_drew, Array.getElem?_push, Array.size_push]; repeat (first | rw [if_pos trivial] | rw [if_neg (by omega)]))) rfl (HX2.out.below (by repeat (first | exact Below.refl _ _ | refine Below.drew ?_ | refine Below.alloc ?_ (by simp <;> omega) _))) (by simp; omega) (by simp <;> omega) ?_; intro v1 w1 hown1 hb1 hk1; have hB1 : Below w2.heap.size w2 w1 := Below.trans (by repeat (first | exact Below.refl _ _ | refine Below.drew ?_ | refine Below.alloc ?_ (by simp <;> omega) _)) hb1; have y1' := (hB1.cell (p := ⟨w.heap.size, 1, none⟩) lq).trans y1; clear hk1 hb1)
      | (refine step_appI rfl (.tmp 11) (.tmp 13) 22 rfl Tryz.underlying22 hi0 hz0 hz1 hz2 rfl hown1 rfl (HO2.out.below hB1) (by simp; omega) hB1.size ?_; intro v2 w4 hown2 hb4 hk4; have hB4 := hB1.trans hb4; clear hk4 hb4))
    all_goals
      go_wp2_with fail
      go_meet
      exact ⟨by simpa using hown2, hB4⟩
  case rest =>
    obtain ⟨hown, hbx⟩ := hcut
    clear y0 y1 q1 lq HX2 HO2
    have q3 := q2.below hbx q2.lt
    have HB := Lib.hid (hb2.trans (hbx.mono hb2.size))
    have HY2 := Lib.hid (hY0.below HB.out)
    have HR2 := Lib.hid (hR0.below HB.out)
    obtain ⟨P, hP⟩ : ∃ P, P = X ++ O := ⟨_, rfl⟩
    rw [← hP] at hown
    have HP := Lib.hid hP
    have HOW := Lib.hid hown
    clear hP
    clear hown hbx hb2 q2 hY0 hR0
    have lq := q3.lt
    have y0 := q3.cell 0
    have y1 := q3.cell 1
    go_wp2_with fail
    have l3' : Y.length ≤ 1000 := by have := L3.out; omega
    have l4' : R.length ≤ 1000 := by have := L4.out; omega
    obtain ⟨G1, d1, hv5⟩ := HOW.out.form
    have HI1 := Lib.hid (fun W (hb : Below wc.heap.size wc W) => (HOW.out.ints).below hb)
    have HBt := Lib.hid (fun W (hb : Below wc.heap.size wc W) => HB.out.trans (hb.mono HB.out.size))
    subst hv5
    go_cut [6] (fun s6 wy => OwnI 3 wc.heap.size wy s6 (Y ++ R) ∧ Below wc.heap.size wc wy)
    case first =>
      go_region_law (first
        | (refine step_appI rfl (.tmp 15) (.tmp 17) 22 rfl Tryz.underlying22 hi0 hz0 hz1 hz2 rfl (OwnI.emptyAt (base := wc.heap.size) (by omega) (by simp only [heap_push, heap_drew, Array.getElem?_push, Array.size_push]; repeat (first | rw [if_pos trivial] | rw [if_neg (by omega)]))) rfl (HY2.out.below (by repeat (first | exact Below.refl _ _ | refine Below.drew ?_ | refine Below.alloc ?_ (by simp <;> omega) _))) (by simp; omega) (by simp <;> omega) ?_; intro v1 w5 hown1 hb1 hk1; have hB1 : Below wc.heap.size wc w5 := Below.trans (by repeat (first | exact Below.refl _ _ | refine Below.drew ?_ | refine Below.alloc ?_ (by simp <;> omega) _)) hb1; have y1' := (hB1.cell (p := ⟨w.heap.size + 1, 1, none⟩) lq).trans y1; clear hk1 hb1)
        | (refine step_appI rfl (.tmp 18) (.tmp 20) 22 rfl Tryz.underlying22 hi0 hz0 hz1 hz2 rfl hown1 rfl (HR2.out.below hB1) (by simp; omega) hB1.size ?_; intro v2 w6 hown2 hb4 hk4; have hB4 := hB1.trans hb4; clear hk4 hb4))
      all_goals
        go_wp2_with fail
        go_meet
        exact ⟨by simpa using hown2, hB4⟩
    case rest =>
      obtain ⟨hown2, hb5⟩ := hcut
      obtain ⟨Q, hQ⟩ : ∃ Q, Q = Y ++ R := ⟨_, rfl⟩
      rw [← hQ] at hown2
      have HQ := Lib.hid hQ
      clear hQ
      obtain ⟨G2, d2, hv6⟩ := hown2.form
      subst hv6
      have i1 := HI1.out _ hb5
      have i2 := hown2.ints
      have hbw := HBt.out _ hb5
      have hlen : (Y ++ R).length = (X ++ O).length := by have := L3.out; have := L4.out; simp; omega
      have hle : (X ++ O).length ≤ 2000 := by simp; omega
      clear hown2 hb5 HI1 HBt HOW y0 y1 q3 lq HB HY2 HR2 L3 L4
      rw [← HP.out] at hlen hle
      rw [← HQ.out] at hlen
      clear l1 l2 l3' l4'
      have HLN := Lib.hid hlen
      clear hlen
      go_wp2_with fail
      go_loopw [7] (fun i wr => ∃ k : Nat, k ≤ P.length ∧ i = .int .i64 k ∧ Ints wr (.slice G1 P.length d1) P ∧ Ints wr (.slice G2 Q.length d2) Q ∧ Below w.heap.size w wr ∧ Hid (cmpL P Q = cmpL (P.drop k) (Q.drop k))) (fun i _ => P.length - (intOf i).toNat)
      case atStart => exact ⟨0, Nat.zero_le _, rfl, i1, i2, hbw, rfl⟩
      case round =>
        clear i1 i2 hbw
        obtain ⟨k, hk, rfl, i1, i2, hb, H⟩ := hrel
        by_cases hlt : k < P.length
        · have hlt' : k < Q.length := by have := HLN.out; omega
          obtain ⟨b, o, e1, hbl, hcX⟩ := i1.at_ hlt
          obtain ⟨b', o', e2, hbl', hcY⟩ := i2.at_ hlt'
          subst e1 e2
          rw [cmpL_drop P Q k hlt hlt'] at H
          have HI1 := Lib.hid i1
          have HI2 := Lib.hid i2
          clear i1 i2
          generalize P[k] = x at *
          generalize Q[k] = y at *
          have z2 : (k : Int) < (P.length : Int) := by omega
          have z3 : (k : Int) < (Q.length : Int) := by omega
          by_cases hxy : x = y
          · have h1 : (x != y) = false := by simp [hxy]
            have H2 := Lib.hid (show cmpL P Q = cmpL (P.drop (k + 1)) (Q.drop (k + 1)) from H.out.trans (by rw [if_neg (by rw [hxy]; unfold cmpI; simp)]))
            clear hxy H
            go_wp2_with fail
            go_quiet (fail)
            go_wp2_with fail
            go_roundw
            case rel => exact ⟨k + 1, by omega, by go_num, HI1.out.drewN _, HI2.out.drewN _, bdrewN hb _, H2⟩
            case measure => simp [intOf]; omega
          · have h1 : (x != y) = true := by simp [hxy]
            have hfin := Lib.hid (show decide (cmpL P Q < 0) = decide (x < y) by
              rw [H.out]
              unfold cmpI
              by_cases q1 : x < y
              · simp [q1]
              · have q2 : y < x := by omega
                simp [q1, q2])
            clear hxy H
            go_wp2_with fail
            go_quiet (fail)
            go_wp2_with fail
            go_quiet (fail)
            go_wp2_with fail
            go_ret
            exact ⟨by rw [← HP.out, ← HQ.out, hfin.out]; rfl, bdrewN (bdrewN hb _) _⟩
        · obtain rfl : k = P.length := by omega
          have hfin := Lib.hid (show decide (cmpL P Q < 0) = false by rw [H.out, List.drop_length, ← HLN.out, List.drop_length]; rfl)
          clear H
          go_wp2_with fail
          go_ret
          exact ⟨by rw [← HP.out, ← HQ.out, hfin.out]; rfl, hb⟩
end Go.Proofs.YteliflcbegcdlaaGreatDoor

namespace Go.Proofs.YteliflcbegcdlaaGreatDoor
open Go.RowKit
set_option linter.unusedVariables false
/-- x is a translation of g -/
def Tl (g x : Gd) : Prop := ∃ c r, c < g.1.length ∧ r < g.1.length ∧ x = (trl c r g.1, trl c r g.2)
abbrev VdG (g : Gd) : Prop := Vd g.1 g.2
theorem Tl.vd {g x : Gd} (h : VdG g) (t : Tl g x) : VdG x := by
  obtain ⟨c, r, hc, hr, rfl⟩ := t
  exact trl_vd h hc hr
theorem Tl.len {g x : Gd} (t : Tl g x) : x.1.length = g.1.length := by
  obtain ⟨c, r, hc, hr, rfl⟩ := t
  exact trl_length _ _ _
theorem Tl.refl {g : Gd} (h : VdG g) : Tl g g := by
  have := h.two
  exact ⟨0, 0, by omega, by omega, by rw [trl_zero h.pX, trl_zero h.pO]⟩
theorem Tl.trans {g x y : Gd} (h : VdG g) (a : Tl g x) (b : Tl x y) : Tl g y := by
  obtain ⟨c, r, hc, hr, rfl⟩ := a
  obtain ⟨c', r', hc', hr', rfl⟩ := b
  have hl := h.len
  simp only [trl_length] at hc' hr'
  refine ⟨(c + c') % g.1.length, (r + r') % g.1.length, Nat.mod_lt _ (by omega), Nat.mod_lt _ (by omega), ?_⟩
  simp only
  rw [trl_trl hc hc', trl_trl (by omega) (by omega), hl]
theorem Tl.symm {g x : Gd} (h : VdG g) (a : Tl g x) : Tl x g := by
  obtain ⟨c, r, hc, hr, rfl⟩ := a
  have hl := h.len
  have h2 := h.two
  refine ⟨(g.1.length - c) % g.1.length, (g.1.length - r) % g.1.length, by simp only [trl_length]; exact Nat.mod_lt _ (by omega), by simp only [trl_length]; exact Nat.mod_lt _ (by omega), ?_⟩
  simp only
  have e : ∀ a, a < g.1.length → (a + (g.1.length - a) % g.1.length) % g.1.length = 0 := fun a ha => by rw [Nat.add_mod_mod, show a + (g.1.length - a) = g.1.length by omega, Nat.mod_self]
  rw [trl_trl hc (Nat.mod_lt _ (by omega)), trl_trl (by omega) (by rw [← hl]; exact Nat.mod_lt _ (by omega)), ← hl, e c hc, e r hr, trl_zero h.pX, trl_zero h.pO]
theorem lstM_isL {g : Gd} (h : VdG g) : IsL g.1 g.2 g.1.length (lstM g) := by
  have k := lstK_is g.1 g.2 (g.1.length - 1)
  rw [Nat.sub_add_cancel (by have := h.two; omega)] at k
  exact k
theorem Tl.lst {g x : Gd} (h : VdG g) (t : Tl g x) : lstM x = lstM g := by
  have hx := lstM_isL (t.vd h)
  obtain ⟨c, r, hc, hr, rfl⟩ := t
  simp only [trl_length] at hx
  exact least_trl h hc hr (lstM_isL h) hx
theorem Tl.least {g : Gd} (h : VdG g) : Tl g (lstM g) := lstM_trl h
theorem lstM_lstM {g : Gd} (h : VdG g) : lstM (lstM g) = lstM g := (Tl.least h).lst h
/-! ### rows and columns -/
theorem tr_trl {l : List Int} {c r : Nat} (h : Pm l) (hc : c < l.length) (hr : r < l.length) : tr (trl c r l) = trl r c (tr l) := by
  refine trl_ext (by rw [tr_length]; exact hr) (by rw [tr_length, tr_length, trl_length]) fun i hi => ?_
  rw [tr_length] at hi ⊢
  obtain ⟨k, hk, e1, e2⟩ := tr_get' h hi
  have e3 : gt (tr l) i = k := gt_of e2
  have e4 := gt_trl (r := r) hc hk
  rw [gt_get hk, e1] at e4
  have hp := trl_pm h hc hr
  have hlt : (k + c) % l.length < l.length := Nat.mod_lt _ (by omega)
  have e5 := gt_tr hp (k := (k + c) % l.length) (by rw [trl_length]; exact hlt)
  rw [e4] at e5
  rw [← Int.natCast_add, ← Int.natCast_emod, Int.toNat_natCast] at e5
  rw [e5, e3, ← Int.natCast_add, ← Int.natCast_emod]
theorem Tl.vw {g x : Gd} (h : VdG g) (t : Tl g x) (r : Bool) : Tl (vw r g.1, vw r g.2) (vw r x.1, vw r x.2) := by
  cases r
  · exact t
  · obtain ⟨c, d, hc, hd, rfl⟩ := t
    have hl := h.len
    refine ⟨d, c, by simp only [vw_length]; exact hd, by simp only [vw_length]; exact hc, ?_⟩
    simp only [Go.Proofs.YteliflcbegcdlaaGreatDoor.vw, if_true]
    rw [tr_trl h.pX hc hd, tr_trl h.pO (by omega) (by omega)]
/-! ### commutations -/
theorem gt_swap2 {X : List Int} {a k : Nat} (ha : a + 1 < X.length) (hk : k < X.length) : gt (swapL X a) k = gt X (if k = a then a + 1 else if k = a + 1 then a else k) := by
  have hlt : (if k = a then a + 1 else if k = a + 1 then a else k) < X.length := by split; omega; split <;> omega
  rw [gt_get hlt]
  exact gt_of ((swapL_get X a k ha).trans (List.getElem?_eq_getElem hlt))
theorem gt_del2 {X : List Int} {a k : Nat} {r : Int} (ha : a < X.length) (hk : k + 1 < X.length) : gt (delL X a r) k = lowr r (gt X (if k < a then k else k + 1)) := by
  have hlt : (if k < a then k else k + 1) < X.length := by split <;> omega
  rw [gt_get hlt]
  refine gt_of ((delL_get X a k r ha).trans ?_)
  rw [List.getElem?_eq_getElem hlt]; rfl
theorem swap_trl {X : List Int} {c r i j : Nat} (h : Pm X) (hc : c < X.length) (hr : r < X.length) (hi : i + 1 < X.length) (hj : j + 1 < X.length) (e : j = (i + c) % X.length) : swapL (trl c r X) j = trl c r (swapL X i) := by
  refine trl_ext (by rw [swapL_length]; exact hc) (by rw [swapL_length, swapL_length, trl_length]) fun k hk => ?_
  rw [swapL_length] at hk ⊢
  have hm : (k + c) % X.length < X.length := Nat.mod_lt _ (by omega)
  rw [gt_swap2 hi hk, gt_swap2 (by rw [trl_length]; exact hj) (by rw [trl_length]; exact hm)]
  have hs : (if k = i then i + 1 else if k = i + 1 then i else k) < X.length := by split; omega; split <;> omega
  rw [← gt_trl hc hs]
  congr 1
  rw [mod_small (by omega) hc] at e
  rw [mod_small hk hc, mod_small hs hc]
  split at e <;> repeat' split
  all_goals omega
/-- the rows of a translation -/
def shN (n r : Nat) (v : Int) : Int := if v + r < n then v + r else v + r - n
/-- x lies between a and b -/
def Inn (a b x : Int) : Prop := minG a b < x ∧ x < maxG a b
theorem inn_iff (a b x : Int) : Inn a b x ↔ (a < x ∧ x < b) ∨ (b < x ∧ x < a) := by
  unfold Inn minG maxG
  split <;> split <;> constructor <;> intro h <;> omega
theorem commB_inn {a b c d : Int} (h1 : a ≠ b) (h2 : c ≠ d) : commB a b c d = true ↔ (a ≠ c ∧ a ≠ d ∧ b ≠ c ∧ b ≠ d) ∧ (Inn a b c ↔ Inn a b d) := by
  rw [inn_iff, inn_iff]
  have key : commB a b c d = true ↔ ¬ (minG a b = minG c d ∨ minG a b = maxG c d ∨ maxG a b = minG c d ∨ maxG a b = maxG c d) ∧ (maxG a b < minG c d ∨ maxG c d < minG a b ∨ (minG a b < minG c d ∧ maxG c d < maxG a b) ∨ (minG c d < minG a b ∧ maxG a b < maxG c d)) := by
    unfold commB commIv
    split
    · next h => exact ⟨fun e => (by cases e), fun e => absurd h e.1⟩
    · next h => exact ⟨fun e => ⟨h, of_decide_eq_true e⟩, fun e => decide_eq_true e.2⟩
  rw [key]
  have ha : (minG a b = a ∧ maxG a b = b ∧ a < b) ∨ (minG a b = b ∧ maxG a b = a ∧ b < a) := by unfold minG maxG; split <;> split <;> omega
  have hc : (minG c d = c ∧ maxG c d = d ∧ c < d) ∨ (minG c d = d ∧ maxG c d = c ∧ d < c) := by unfold minG maxG; split <;> split <;> omega
  rcases ha with ⟨e1, e2, h3⟩ | ⟨e1, e2, h3⟩ <;> rcases hc with ⟨e3, e4, h4⟩ | ⟨e3, e4, h4⟩ <;> rw [e1, e2, e3, e4] <;> constructor <;> intro h <;> omega
theorem inn_sh {n r : Nat} {a b x : Int} (hr : r < n) (ha : 0 ≤ a ∧ a < n) (hb : 0 ≤ b ∧ b < n) (hx : 0 ≤ x ∧ x < n) (h1 : a ≠ x) (h2 : b ≠ x) : Inn (shN n r a) (shN n r b) (shN n r x) ↔ ((a + r < n ↔ b + r < n) ↔ Inn a b x) := by
  rw [inn_iff, inn_iff]
  unfold shN
  by_cases q1 : a + r < n <;> by_cases q2 : b + r < n <;> by_cases q3 : x + r < n <;> simp only [q1, q2, q3, if_true, if_false, iff_self, true_iff, iff_true, iff_false, false_iff, not_true_eq_false, not_false_eq_true] <;> constructor <;> intro h <;> omega
theorem shN_inj {n d : Nat} {a b : Int} (ha : 0 ≤ a ∧ a < n) (hb : 0 ≤ b ∧ b < n) (hd : d < n) (e : shN n d a = shN n d b) : a = b := by
  unfold shN at e; split at e <;> split at e <;> omega
theorem commB_sh {n r : Nat} {a b c d : Int} (hr : r < n) (ha : 0 ≤ a ∧ a < n) (hb : 0 ≤ b ∧ b < n) (hc : 0 ≤ c ∧ c < n) (hd : 0 ≤ d ∧ d < n) (h : commB (shN n r a) (shN n r b) (shN n r c) (shN n r d) = true) (h1 : a ≠ b) (h2 : c ≠ d) : commB a b c d = true := by
  obtain ⟨⟨n1, n2, n3, n4⟩, hi⟩ := (commB_inn (fun e => h1 (shN_inj ha hb hr e)) (fun e => h2 (shN_inj hc hd hr e))).1 h
  have m1 : a ≠ c := fun e => n1 (by rw [e])
  have m2 : a ≠ d := fun e => n2 (by rw [e])
  have m3 : b ≠ c := fun e => n3 (by rw [e])
  have m4 : b ≠ d := fun e => n4 (by rw [e])
  rw [inn_sh hr ha hb hc m1 m3, inn_sh hr ha hb hd m2 m4] at hi
  refine (commB_inn h1 h2).2 ⟨⟨m1, m2, m3, m4⟩, ?_⟩
  by_cases q : (a + r < n ↔ b + r < n)
  · simpa [q] using hi
  · have : (Inn a b c ↔ Inn a b d) := by
      constructor
      · intro k
        exact Classical.byContradiction fun k2 => q ((hi.2 ⟨fun e => absurd e q, fun e => absurd e k2⟩).2 k)
      · intro k
        exact Classical.byContradiction fun k2 => q ((hi.1 ⟨fun e => absurd e q, fun e => absurd e k2⟩).2 k)
    exact this
/-! ### a column is removed -/
/-- the translation of what is left -/
def dsh (n i c : Nat) : Nat := if i + c < n then (if c + 1 = n then 0 else c) else c - 1
theorem dsh_lt {n i c : Nat} (hn : 3 ≤ n) (hi : i < n) (hc : c < n) : dsh n i c < n - 1 := by unfold dsh; split; split <;> omega; omega
theorem dsh_col {n i j c k : Nat} (hn : 3 ≤ n) (hi : i < n) (hc : c < n) (hk : k + 1 < n) (e : j = (i + c) % n) : (if (k + dsh n i c) % (n - 1) < j then (k + dsh n i c) % (n - 1) else (k + dsh n i c) % (n - 1) + 1) = ((if k < i then k else k + 1) + c) % n := by
  have hd := dsh_lt hn hi hc
  have hs : (if k < i then k else k + 1) < n := by split <;> omega
  rw [mod_small (show k < n - 1 by omega) hd, mod_small hs hc]
  rw [mod_small hi hc] at e
  unfold dsh
  repeat' split
  all_goals (try split at e) <;> omega
theorem dsh_row {n r : Nat} {low v : Int} (hn : 3 ≤ n) (hr : r < n) (hl : 0 ≤ low ∧ low + 1 < n) (hv : 0 ≤ v ∧ v < n) (hw : shN n r (low + 1) = shN n r low + 1) : lowr (shN n r low) (shN n r v) = shN (n - 1) (dsh n (low + 1).toNat r) (lowr low v) := by
  unfold lowr shN dsh at *
  rw [show ((n - 1 : Nat) : Int) = (n : Int) - 1 by omega]
  repeat' split
  all_goals (try split at hw) <;> (try split at hw) <;> omega
theorem del_trl {X : List Int} {c r i j : Nat} {low : Int} (hn : 3 ≤ X.length) (h : Pm X) (hc : c < X.length) (hr : r < X.length) (hi : i < X.length) (e : j = (i + c) % X.length) (hl : 0 ≤ low ∧ low + 1 < X.length) (hw : shN X.length r (low + 1) = shN X.length r low + 1) :
    delL (trl c r X) j (shN X.length r low) = trl (dsh X.length i c) (dsh X.length (low + 1).toNat r) (delL X i low) := by
  have hj : j < X.length := by rw [e]; exact Nat.mod_lt _ (by omega)
  have hdl : (delL X i low).length = X.length - 1 := delL_length _ _ _ hi
  have hd1 := dsh_lt hn hi hc
  have hd2 := dsh_lt (i := (low + 1).toNat) hn (by omega) hr
  refine trl_ext (by rw [hdl]; exact hd1) (by rw [hdl, delL_length _ _ _ (by rw [trl_length]; exact hj), trl_length]) fun k hk => ?_
  rw [hdl] at hk ⊢
  have hs : (if k < i then k else k + 1) < X.length := by split <;> omega
  have hm : (k + dsh X.length i c) % (X.length - 1) < X.length - 1 := Nat.mod_lt _ (by omega)
  have hg := h.gt_rng hs
  rw [gt_del2 hi (by omega), gt_del2 (by rw [trl_length]; exact hj) (by rw [trl_length]; omega), dsh_col hn hi hc (by omega) e, trl_vd_gt h hc hr hs]
  have := dsh_row hn hr hl hg hw
  generalize gt X (if k < i then k else k + 1) = v at *
  have hlo : 0 ≤ lowr low v ∧ lowr low v < ((X.length - 1 : Nat) : Int) := by unfold lowr; split <;> omega
  rw [emod_small hlo.1 hlo.2 (by omega) (by omega)]
  unfold shN at this
  exact this
theorem getD_gt (X : List Int) (i : Nat) : X.getD i 0 = gt X i := rfl
/-- the values of a column of a translation -/
theorem trl_val {X : List Int} {c d i a : Nat} (h : Pm X) (hc : c < X.length) (hd : d < X.length) (hi : i < X.length) (e : a = (i + c) % X.length) : gt (trl c d X) a = shN X.length d (gt X i) := by
  rw [e, trl_vd_gt h hc hd hi]; rfl
theorem com_one {G : Gd} {c d i a : Nat} (h : VdG G) (hc : c < G.1.length) (hd : d < G.1.length) (hi : i + 1 < G.1.length) (ha : a + 1 < G.1.length) (e : a = (i + c) % G.1.length)
    (hk : commB (gt (trl c d G.1) a) (gt (trl c d G.2) a) (gt (trl c d G.1) (a + 1)) (gt (trl c d G.2) (a + 1)) = true) :
    commB (gt G.1 i) (gt G.2 i) (gt G.1 (i + 1)) (gt G.2 (i + 1)) = true ∧ (swapL (trl c d G.1) a, swapL (trl c d G.2) a) = (trl c d (swapL G.1 i), trl c d (swapL G.2 i)) := by
  have hl := h.len
  have e2 : a + 1 = (i + 1 + c) % G.1.length := by
    rw [mod_small (by omega) hc] at e ⊢
    split at e <;> split <;> omega
  have v3 := trl_val h.pO (c := c) (d := d) (i := i) (a := a) (by omega) (by omega) (by omega) (by rw [← hl]; exact e)
  have v4 := trl_val h.pO (c := c) (d := d) (i := i + 1) (a := a + 1) (by omega) (by omega) (by omega) (by rw [← hl]; exact e2)
  rw [← hl] at v3 v4
  rw [trl_val h.pX hc hd (by omega) e, trl_val h.pX hc hd hi e2, v3, v4] at hk
  have b1 := h.pX.gt_rng (show i < G.1.length by omega)
  have b2 := h.pX.gt_rng hi
  have b3 := h.pO.gt_rng (show i < G.2.length by omega)
  have b4 := h.pO.gt_rng (show i + 1 < G.2.length by omega)
  rw [← hl] at b3 b4
  have n1 : gt G.1 i ≠ gt G.2 i := by rw [gt_get (by omega), gt_get (by omega)]; exact h.ne i _ _
  have n2 : gt G.1 (i + 1) ≠ gt G.2 (i + 1) := by rw [gt_get (by omega), gt_get (by omega)]; exact h.ne (i + 1) _ _
  refine ⟨commB_sh hd b1 b3 b2 b4 hk n1 n2, ?_⟩
  rw [swap_trl h.pX hc hd hi ha e, swap_trl (i := i) (j := a) h.pO (by omega) (by omega) (by omega) (by omega) (by rw [← hl]; exact e)]
/-- the two rows of a column are neighbors -/
def Adj (x o : Int) : Prop := x = o + 1 ∨ o = x + 1
theorem adj_iff (x o : Int) : maxG x o = minG x o + 1 ↔ Adj x o := by
  unfold maxG minG Adj
  split <;> split <;> omega
theorem desOk_iff {X O : List Int} {a : Nat} (hl : X.length = O.length) : desOk X O a (gt X a) (gt O a) = true ↔ 3 ≤ X.length ∧ Adj (gt X a) (gt O a) ∧ ∀ k, k < X.length → k ≠ a → ¬ (gt O k = gt X a ∧ gt X k = gt O a) := by
  unfold desOk
  rw [Bool.and_eq_true, Bool.and_eq_true, decide_eq_true_eq, decide_eq_true_eq, adj_iff, and_assoc]
  refine and_congr Iff.rfl (and_congr Iff.rfl ⟨fun h k hk hne => ?_, fun h => ?_⟩)
  · have := desAll_spec a (gt X a) (gt O a) X O 0 hl h k hk (by omega) (by omega)
    rw [gt_get hk, gt_get (show k < O.length by omega)]; exact this
  · refine desAll_of a _ _ X O 0 hl fun k h1 h2 hne => ?_
    have := h k h1 (by omega)
    rw [gt_get h1, gt_get h2] at this; exact this
theorem des_one {G : Gd} {c d i a : Nat} (h : VdG G) (hc : c < G.1.length) (hd : d < G.1.length) (hi : i < G.1.length) (e : a = (i + c) % G.1.length)
    (hk : desOk (trl c d G.1) (trl c d G.2) a (gt (trl c d G.1) a) (gt (trl c d G.2) a) = true) (hA : Adj (gt G.1 i) (gt G.2 i)) :
    desOk G.1 G.2 i (gt G.1 i) (gt G.2 i) = true ∧ Tl (delL G.1 i (minG (gt G.1 i) (gt G.2 i)), delL G.2 i (minG (gt G.1 i) (gt G.2 i))) (delL (trl c d G.1) a (minG (gt (trl c d G.1) a) (gt (trl c d G.2) a)), delL (trl c d G.2) a (minG (gt (trl c d G.1) a) (gt (trl c d G.2) a))) := by
  have hl := h.len
  have ha : a < G.1.length := by rw [e]; exact Nat.mod_lt _ (by omega)
  obtain ⟨h3, hA2, hno⟩ := (desOk_iff (by rw [trl_length, trl_length]; exact hl)).1 hk
  rw [trl_length] at h3 hno
  have v1 := trl_val h.pX hc hd hi e
  have v2 : gt (trl c d G.2) a = shN G.1.length d (gt G.2 i) := by
    have := trl_val h.pO (c := c) (d := d) (i := i) (a := a) (by omega) (by omega) (by omega) (by rw [← hl]; exact e)
    rw [← hl] at this; exact this
  have b1 := h.pX.gt_rng hi
  have b2 := h.pO.gt_rng (show i < G.2.length by omega)
  rw [← hl] at b2
  rw [v1, v2] at hno hA2 ⊢
  refine ⟨(desOk_iff hl).2 ⟨h3, hA, fun k hk hne hh => ?_⟩, ?_⟩
  · have hm : (k + c) % G.1.length < G.1.length := Nat.mod_lt _ (by omega)
    refine hno _ hm (fun e3 => hne ?_) ⟨?_, ?_⟩
    · rw [e, mod_small hk hc, mod_small hi hc] at e3
      split at e3 <;> split at e3 <;> omega
    · have := trl_val h.pO (c := c) (d := d) (i := k) (a := (k + c) % G.1.length) (by omega) (by omega) (by omega) (by rw [← hl])
      rw [this, hh.1, ← hl]
    · rw [trl_val h.pX hc hd hk rfl, hh.2]
  · obtain ⟨low, hlow⟩ : ∃ l, l = minG (gt G.1 i) (gt G.2 i) := ⟨_, rfl⟩
    have hb : 0 ≤ low ∧ low + 1 < G.1.length := by
      rw [hlow]; unfold minG; unfold Adj at hA; split <;> omega
    have hw : shN G.1.length d (low + 1) = shN G.1.length d low + 1 := by
      rw [hlow]
      unfold shN minG Adj at *
      (repeat' split) <;> (repeat' split at hA2) <;> omega
    have hmn : minG (shN G.1.length d (gt G.1 i)) (shN G.1.length d (gt G.2 i)) = shN G.1.length d low := by
      rw [hlow]
      unfold shN minG Adj at *
      (repeat' split) <;> (repeat' split at hA2) <;> omega
    rw [hmn, ← hlow]
    have hdl : (delL G.1 i low).length = G.1.length - 1 := delL_length _ _ _ hi
    refine ⟨dsh G.1.length i c, dsh G.1.length (low + 1).toNat d, by simp only [hdl]; exact dsh_lt h3 hi hc, by simp only [hdl]; exact dsh_lt h3 (by omega) hd, ?_⟩
    have q1 := del_trl h3 h.pX hc hd hi e hb hw
    have q2 := del_trl (low := low) (X := G.2) (c := c) (r := d) (i := i) (j := a) (by omega) h.pO (by omega) (by omega) (by omega) (by rw [← hl]; exact e) (by rw [← hl]; exact hb) (by rw [← hl]; exact hw)
    rw [← hl] at q2
    simp only
    rw [q1, q2]
/-! ### tries -/
theorem tryM_one {g : Gd} {m : Mv} (h : VdG g) (ms : List Mv) (z : Gd) : (ms, z) ∈ tryM g [m] ↔ ms = [m] ∧ m.app g.1 g.2 = (0, z.1, z.2) := by
  have hp : ∀ l, playM g.1 g.2 l = playFrom 0 g.1 g.2 l := fun l => by
    unfold playM
    rw [if_neg (by rw [(validB_iff _ _).2 h]; simp)]
  unfold tryM
  rw [hp]
  obtain ⟨R, hR⟩ : ∃ R, m.app g.1 g.2 = R := ⟨_, rfl⟩
  obtain ⟨er, Y, P⟩ := R
  simp only [playFrom, hR]
  by_cases h0 : er = 0
  · subst h0
    simp only [if_true]
    rw [if_pos (by simp)]
    simp only [List.mem_singleton, Prod.mk.injEq, true_and]
    obtain ⟨z1, z2⟩ := z
    simp only [Prod.mk.injEq]
    exact and_congr Iff.rfl (and_congr eq_comm eq_comm)
  · simp only [h0, if_false]
    rw [if_neg (by simp)]
    simp [h0]
theorem tryM_two {g : Gd} {m m' : Mv} (h : VdG g) (ms : List Mv) (z : Gd) : (ms, z) ∈ tryM g [m, m'] ↔ ms = [m, m'] ∧ ∃ y : Gd, m.app g.1 g.2 = (0, y.1, y.2) ∧ m'.app y.1 y.2 = (0, z.1, z.2) := by
  have hp : ∀ l, playM g.1 g.2 l = playFrom 0 g.1 g.2 l := fun l => by
    unfold playM
    rw [if_neg (by rw [(validB_iff _ _).2 h]; simp)]
  unfold tryM
  rw [hp]
  obtain ⟨R, hR⟩ : ∃ R, m.app g.1 g.2 = R := ⟨_, rfl⟩
  obtain ⟨er, Y, P⟩ := R
  simp only [playFrom, hR]
  by_cases h0 : er = 0
  · subst h0
    simp only [if_true]
    obtain ⟨R2, hr2⟩ : ∃ R, m'.app Y P = R := ⟨_, rfl⟩
    obtain ⟨er2, Y2, P2⟩ := R2
    simp only [hr2]
    have key : (∃ y : Gd, ((0 : Int), Y, P) = (0, y.1, y.2) ∧ m'.app y.1 y.2 = (0, z.1, z.2)) ↔ (er2, Y2, P2) = (0, z.1, z.2) := by
      constructor
      · rintro ⟨⟨y1, y2⟩, e1, e2⟩
        injection e1 with _ e1
        injection e1 with e1 e3
        subst e1; subst e3
        rw [hr2] at e2; exact e2
      · intro e; exact ⟨(Y, P), rfl, hr2.trans e⟩
    rw [key]
    by_cases h1 : er2 = 0
    · subst h1
      simp only [if_true]
      rw [if_pos (by simp)]
      obtain ⟨z1, z2⟩ := z
      simp only [List.mem_singleton, Prod.mk.injEq, true_and]
      exact and_congr Iff.rfl (and_congr eq_comm eq_comm)
    · simp only [h1, if_false]
      rw [if_neg (by simp)]
      simp [h1]
  · simp only [h0, if_false]
    rw [if_neg (by simp)]
    simp [h0]
theorem rot_vd {l : List Int} (h : Pm l) (h2 : 2 ≤ l.length) : Pm (rotL l) := by rw [rotL_trl h h2]; exact trl_pm h (by omega) (by omega)
/-- a translation of columns or rows -/
theorem tu_app {g : Gd} (h : VdG g) (r : Bool) : (tuM r).app g.1 g.2 = (0, vw r (rotL (vw r g.1)), vw r (rotL (vw r g.2))) :=
  applyM_of h ⟨by simp [tuM], by simp [limAt, tuM], by simp [limVar, tuM]⟩ rfl
theorem tu_tl {g : Gd} (h : VdG g) (r : Bool) : Tl g (vw r (rotL (vw r g.1)), vw r (rotL (vw r g.2))) := by
  have h2 := h.two
  have hl := h.len
  cases r
  · refine ⟨g.1.length - 1, 0, by omega, by omega, ?_⟩
    simp only [vw, Bool.false_eq_true, if_false]
    rw [rotL_trl h.pX h2, rotL_trl h.pO (by omega), hl]
  · refine ⟨0, g.1.length - 1, by omega, by omega, ?_⟩
    simp only [vw, if_true]
    rw [rotR_trl h.pX h2, rotR_trl h.pO (by omega), hl]
/-- c follows the class of g -/
def Fol (g c : Gd) : Prop := ∃ (x y : Gd) (k : Int) (r : Bool) (a : Int), Tl g x ∧ (k = 2 ∨ k = 3) ∧ applyM x.1 x.2 k r a 0 = (0, y.1, y.2) ∧ lstM y = c
theorem Fol.tl {g g' c : Gd} (h : VdG g) (t : Tl g g') : Fol g c ↔ Fol g' c := by
  constructor
  · rintro ⟨x, y, k, r, a, hx, q⟩
    exact ⟨x, y, k, r, a, (t.symm h).trans (t.vd h) hx, q⟩
  · rintro ⟨x, y, k, r, a, hx, q⟩
    exact ⟨x, y, k, r, a, t.trans h hx, q⟩
theorem nbR_fol {g : Gd} {ms : List Mv} {z : Gd} {r : Bool} (h : VdG g) (hm : (ms, z) ∈ nbR g r) : Fol g (lstM z) := by
  have one : ∀ {k : Int} {i : Int} {ms : List Mv}, (k = 2 ∨ k = 3) → (ms, z) ∈ tryM g [⟨k, r, i, 0⟩] → Fol g (lstM z) := fun hk hm => by
    obtain ⟨_, q⟩ := (tryM_one h _ _).1 hm
    exact ⟨g, z, _, r, _, Tl.refl h, hk, q, rfl⟩
  have two : ∀ {k : Int} {i : Int} {r' : Bool} {ms : List Mv}, (k = 2 ∨ k = 3) → (ms, z) ∈ tryM g [tuM r', ⟨k, r, i, 0⟩] → Fol g (lstM z) := fun {k i r' ms} hk hm => by
    obtain ⟨_, y, q1, q2⟩ := (tryM_two h _ _).1 hm
    have ey : y = (vw r' (rotL (vw r' g.1)), vw r' (rotL (vw r' g.2))) := by
      rw [tu_app h r'] at q1
      injection q1 with _ q1
      injection q1 with e1 e2
      exact Prod.ext e1.symm e2.symm
    exact ⟨y, z, _, r, _, by rw [ey]; exact tu_tl h r', hk, q2, rfl⟩
  unfold nbR nb1 nb2 nb3 at hm
  rcases List.mem_append.1 hm with hm | hm
  · rcases List.mem_append.1 hm with hm | hm
    · obtain ⟨i, hi, q⟩ := List.mem_flatMap.1 hm
      unfold rmL at q
      split at q
      · exact one (.inr rfl) q
      · exact two (.inr rfl) q
    · obtain ⟨i, hi, q⟩ := List.mem_flatMap.1 hm
      exact one (.inl rfl) q
  · exact two (.inl rfl) hm
theorem nbrs_fol {g : Gd} {ms : List Mv} {z : Gd} (h : VdG g) (hm : (ms, z) ∈ nbrs g) : Fol g (lstM z) := by
  unfold nbrs at hm
  rcases List.mem_append.1 hm with hm | hm
  · exact nbR_fol h hm
  · exact nbR_fol h hm
theorem Tl.lst_eq {z y : Gd} (h : VdG z) (t : Tl z y) : lstM z = lstM y := (t.lst h).symm
theorem trl_back {l : List Int} {c d c1 d1 c2 d2 : Nat} (hc1 : c1 < l.length) (hc2 : c2 < l.length) (hc : (c1 + c2) % l.length = c) (hd : (d1 + d2) % l.length = d) : trl c d l = trl c2 d2 (trl c1 d1 l) := by
  rw [trl_trl hc1 hc2, hc, hd]
theorem cols2 {X O : List Int} {a : Nat} (h : commB (gt X a) (gt O a) (gt X (a + 1)) (gt O (a + 1)) = true) : colsL X O 2 a 0 = (0, swapL X a, swapL O a) := by
  have h : commB (X.getD a 0) (O.getD a 0) (X.getD (a + 1) 0) (O.getD (a + 1) 0) = true := h
  unfold colsL
  rw [if_neg (by decide), if_pos rfl, if_pos h]
theorem cols3 {X O : List Int} {a : Nat} (h : desOk X O a (gt X a) (gt O a) = true) : colsL X O 3 a 0 = (0, delL X a (minG (gt X a) (gt O a)), delL O a (minG (gt X a) (gt O a))) := by
  have h : desOk X O a (X.getD a 0) (O.getD a 0) = true := h
  unfold colsL
  rw [if_neg (by decide), if_neg (by decide), if_pos rfl, if_pos h]
  rfl
theorem fol_nbrs {g c : Gd} (h : VdG g) (hf : Fol g c) : ∃ ms z, (ms, z) ∈ nbrs g ∧ lstM z = c := by
  obtain ⟨x, y, k, r, a, hx, hk, happ, hc⟩ := hf
  have hxv := hx.vd h
  have h2 := h.two
  have hl := h.len
  obtain ⟨_, hr, Y, P, hcol, ey1, ey2⟩ := applyM_inv happ
  have hG : VdG (vw r g.1, vw r g.2) := vw_vd h
  obtain ⟨c0, d0, hc0, hd0, ex⟩ := hx.vw h r
  simp only [vw_length] at hc0 hd0
  injection ex with ex1 ex2
  have hxl := hx.len
  have hlG : (vw r g.1).length = g.1.length := vw_length _ _
  have inR : ∀ z, (∃ ms, (ms, z) ∈ nbR g r) → lstM z = c → ∃ ms z, (ms, z) ∈ nbrs g ∧ lstM z = c := fun z ⟨ms, hm⟩ e => by
    refine ⟨ms, z, ?_, e⟩
    unfold nbrs
    cases r
    · exact List.mem_append_left _ hm
    · exact List.mem_append_right _ hm
  have hlst : ∀ z : Gd, VdG z → Tl z y → lstM z = c := fun z hz t => by rw [← hc]; exact t.lst_eq hz
  obtain ⟨hk14, ⟨ha0, ha1⟩, _, _⟩ := hr
  rw [hxl] at ha1
  obtain ⟨j, rfl⟩ : ∃ j : Nat, a = j := ⟨a.toNat, by omega⟩
  simp only [Int.toNat_natCast] at hcol
  rcases hk with rfl | rfl
  · have hj : j + 1 < g.1.length := by simp only [limAt] at ha1; simp at ha1; omega
    unfold colsL at hcol
    rw [if_neg (by decide), if_pos rfl] at hcol
    split at hcol
    · next hcm =>
      injection hcol with _ hcol
      injection hcol with eY eP
      simp only [getD_gt] at hcm
      rw [ex1, ex2] at hcm
      rw [ex1] at eY
      rw [ex2] at eP
      have hie : j = ((j + (g.1.length - c0)) % g.1.length + c0) % g.1.length := by
        rw [Nat.mod_add_mod, show j + (g.1.length - c0) + c0 = j + g.1.length by omega, Nat.add_mod_right, Nat.mod_eq_of_lt (by omega)]
      obtain ⟨i, hi⟩ : ∃ i, i = (j + (g.1.length - c0)) % g.1.length := ⟨_, rfl⟩
      have hilt : i < g.1.length := by rw [hi]; exact Nat.mod_lt _ (by omega)
      rw [← hi] at hie
      by_cases hi1 : i + 1 < g.1.length
      · obtain ⟨q1, q2⟩ := com_one hG (by simp only [hlG]; exact hc0) (by simp only [hlG]; exact hd0) (by simp only [hlG]; exact hi1) (by simp only [hlG]; exact hj) (by simp only [hlG]; exact hie) hcm
        simp only at q1 q2
        have hcl : colsL (vw r g.1) (vw r g.2) 2 i 0 = (0, swapL (vw r g.1) i, swapL (vw r g.2) i) := by
          exact cols2 q1
        have hir : inRange 2 (i : Int) 0 g.1.length := ⟨by omega, by simp [limAt]; omega, by simp [limVar]⟩
        have hap := applyM_of (rows := r) (k := 2) (a := (i : Int)) (v := 0) h hir (by simpa using hcl)
        have hzv := applyM_res_vd hap
        refine inR (vw r (swapL (vw r g.1) i), vw r (swapL (vw r g.2) i)) ⟨[coM r i], ?_⟩ (hlst _ hzv ?_)
        · unfold nbR nb2
          exact List.mem_append_left _ (List.mem_append_right _ (List.mem_flatMap.2 ⟨i, List.mem_range.2 (by omega), (tryM_one h _ _).2 ⟨rfl, hap⟩⟩))
        · have hsv : VdG (swapL (vw r g.1) i, swapL (vw r g.2) i) := swapL_vd hG (by simp only [hlG]; exact hi1)
          have t : Tl (swapL (vw r g.1) i, swapL (vw r g.2) i) (Y, P) := ⟨c0, d0, by simp only [swapL_length, hlG]; exact hc0, by simp only [swapL_length, hlG]; exact hd0, by rw [← eY, ← eP]; exact q2⟩
          have := t.vw hsv r
          rw [show y = (vw r Y, vw r P) from Prod.ext ey1 ey2]
          exact this
      · have hin : i = g.1.length - 1 := by omega
        have hRv : VdG (rotL (vw r g.1), rotL (vw r g.2)) := rotL_vd hG
        have hRl : (rotL (vw r g.1)).length = g.1.length := by rw [rotL_length, hlG]
        have hc1 : (1 + c0) % g.1.length < g.1.length := Nat.mod_lt _ (by omega)
        have bk : ∀ l : List Int, Pm l → l.length = g.1.length → trl c0 d0 l = trl ((1 + c0) % g.1.length) d0 (rotL l) := fun l hp hll => by
          rw [rotL_trl hp (by omega)]
          refine trl_back (by omega) (by omega) ?_ ?_
          · rw [hll, Nat.add_mod_mod, show g.1.length - 1 + (1 + c0) = c0 + g.1.length by omega, Nat.add_mod_right, Nat.mod_eq_of_lt hc0]
          · rw [hll, Nat.zero_add, Nat.mod_eq_of_lt hd0]
        have k1 := bk (vw r g.1) hG.pX hlG
        have k2 := bk (vw r g.2) hG.pO (by rw [vw_length]; omega)
        simp only [k1, k2] at hcm eY eP
        obtain ⟨q1, q2⟩ := com_one (i := g.1.length - 2) (a := j) hRv (by simp only [hRl]; exact hc1) (by simp only [hRl]; exact hd0) (by simp only [hRl]; omega) (by simp only [hRl]; exact hj) (by
          simp only [hRl]
          rw [Nat.add_mod_mod, hie, hin, show g.1.length - 2 + (1 + c0) = g.1.length - 1 + c0 by omega]) hcm
        simp only at q1 q2
        have hap1 := tu_app h r
        have hyv := (tu_tl h r).vd h
        have hyl := (tu_tl h r).len
        have hww : ∀ l : List Int, Pm l → 2 ≤ l.length → vw r (vw r (rotL (vw r l))) = rotL (vw r l) := fun l hp hll => vw_vw (rot_vd (by cases r; exact hp; exact tr_pm hp) (by rw [vw_length]; exact hll))
        have hcl : colsL (vw r (vw r (rotL (vw r g.1)))) (vw r (vw r (rotL (vw r g.2)))) 2 (g.1.length - 2) 0 = (0, swapL (rotL (vw r g.1)) (g.1.length - 2), swapL (rotL (vw r g.2)) (g.1.length - 2)) := by
          rw [hww _ h.pX h2, hww _ h.pO (by omega)]
          exact cols2 q1
        have hir : inRange 2 ((g.1.length : Int) - 2) 0 (vw r (rotL (vw r g.1))).length := ⟨by omega, by simp only at hyl; rw [hyl]; simp [limAt]; omega, by simp [limVar]⟩
        have hap := applyM_of (rows := r) (k := 2) (a := (g.1.length : Int) - 2) (v := 0) hyv hir (by rw [show ((g.1.length : Int) - 2).toNat = g.1.length - 2 by omega]; simpa using hcl)
        have hzv := applyM_res_vd hap
        refine inR (vw r (swapL (rotL (vw r g.1)) (g.1.length - 2)), vw r (swapL (rotL (vw r g.2)) (g.1.length - 2))) ⟨[tuM r, coM r ((g.1.length : Int) - 2)], ?_⟩ (hlst _ hzv ?_)
        · unfold nbR nb3
          exact List.mem_append_right _ ((tryM_two h _ _).2 ⟨rfl, (vw r (rotL (vw r g.1)), vw r (rotL (vw r g.2))), hap1, hap⟩)
        · have hsv : VdG (swapL (rotL (vw r g.1)) (g.1.length - 2), swapL (rotL (vw r g.2)) (g.1.length - 2)) := swapL_vd hRv (by simp only [hRl]; omega)
          have t : Tl (swapL (rotL (vw r g.1)) (g.1.length - 2), swapL (rotL (vw r g.2)) (g.1.length - 2)) (Y, P) := ⟨(1 + c0) % g.1.length, d0, by simp only [swapL_length, hRl]; exact hc1, by simp only [swapL_length, hRl]; exact hd0, by rw [← eY, ← eP]; exact q2⟩
          have := t.vw hsv r
          rw [show y = (vw r Y, vw r P) from Prod.ext ey1 ey2]
          exact this
    · injection hcol with hcol _; cases hcol
  · have hj : j < g.1.length := by simp only [limAt] at ha1; simp at ha1; omega
    unfold colsL at hcol
    rw [if_neg (by decide), if_neg (by decide), if_pos rfl] at hcol
    split at hcol
    · next hcm =>
      injection hcol with _ hcol
      injection hcol with eY eP
      simp only [getD_gt] at hcm eY eP
      rw [ex1, ex2] at hcm eY eP
      have hie : j = ((j + (g.1.length - c0)) % g.1.length + c0) % g.1.length := by
        rw [Nat.mod_add_mod, show j + (g.1.length - c0) + c0 = j + g.1.length by omega, Nat.add_mod_right, Nat.mod_eq_of_lt hj]
      obtain ⟨i, hi⟩ : ∃ i, i = (j + (g.1.length - c0)) % g.1.length := ⟨_, rfl⟩
      have hilt : i < g.1.length := by rw [hi]; exact Nat.mod_lt _ (by omega)
      rw [← hi] at hie
      have hir : inRange 3 (i : Int) 0 g.1.length := ⟨by omega, by simp [limAt]; omega, by simp [limVar]⟩
      by_cases hA : Adj (gt (vw r g.1) i) (gt (vw r g.2) i)
      · obtain ⟨q1, t⟩ := des_one (G := (vw r g.1, vw r g.2)) hG (by simp only [hlG]; exact hc0) (by simp only [hlG]; exact hd0) (by simp only [hlG]; exact hilt) (by simp only [hlG]; exact hie) hcm hA
        simp only at q1 t
        rw [eY, eP] at t
        have hcl : colsL (vw r g.1) (vw r g.2) 3 i 0 = (0, delL (vw r g.1) i (minG (gt (vw r g.1) i) (gt (vw r g.2) i)), delL (vw r g.2) i (minG (gt (vw r g.1) i) (gt (vw r g.2) i))) := by
          exact cols3 q1
        have hap := applyM_of (rows := r) (k := 3) (a := (i : Int)) (v := 0) h hir (by simpa using hcl)
        have hzv := applyM_res_vd hap
        have hsv := delL_vd hG (by simp only [hlG]; exact hilt) q1
        have t2 := t.vw hsv r
        rw [show (vw r Y, vw r P) = y from (Prod.ext ey1 ey2).symm] at t2
        refine inR _ ⟨[rmM r i], ?_⟩ (hlst _ hzv t2)
        unfold nbR nb1
        refine List.mem_append_left _ (List.mem_append_left _ (List.mem_flatMap.2 ⟨i, List.mem_range.2 hilt, ?_⟩))
        have : rmL g r i = [rmM r i] := by
          unfold rmL
          rw [if_pos (by rw [hap])]
        rw [this]
        exact (tryM_one h _ _).2 ⟨rfl, hap⟩
      · -- the two rows are the first and the last one
        have h3 := ((desOk_iff (by rw [trl_length, trl_length]; exact hG.len)).1 hcm)
        rw [trl_length, hlG] at h3
        obtain ⟨h3, hA2, _⟩ := h3
        have hO2 : (vw r g.2).length = g.1.length := by rw [vw_length]; exact hl.symm
        have b1 := Pm.gt_rng (l := vw r g.1) hG.pX (i := i) (by omega)
        have b2 := Pm.gt_rng (l := vw r g.2) hG.pO (i := i) (by omega)
        rw [hlG] at b1
        rw [hO2] at b2
        have v1 := trl_val (X := vw r g.1) hG.pX (c := c0) (d := d0) (i := i) (a := j) (by omega) (by omega) (by omega) (by rw [hlG]; exact hie)
        have v2 := trl_val (X := vw r g.2) hG.pO (c := c0) (d := d0) (i := i) (a := j) (by omega) (by omega) (by omega) (by rw [hO2]; exact hie)
        rw [hlG] at v1
        rw [hO2] at v2
        rw [v1, v2] at hA2
        have hends : (gt (vw r g.1) i = 0 ∧ gt (vw r g.2) i = g.1.length - 1) ∨ (gt (vw r g.2) i = 0 ∧ gt (vw r g.1) i = g.1.length - 1) := by
          unfold Adj shN at *
          split at hA2 <;> split at hA2 <;> omega
        have cross : ∀ l : List Int, Pm l → 2 ≤ l.length → vw r (vw (!r) (rotL (vw (!r) l))) = trl 0 (l.length - 1) (vw r l) := fun l hp hll => by
          cases r
          · simp only [Bool.not_false, vw, Bool.false_eq_true, if_false, if_true]
            exact rotR_trl hp hll
          · simp only [Bool.not_true, vw, Bool.false_eq_true, if_false, if_true]
            have := rotR_trl (tr_pm hp) (by rw [tr_length]; exact hll)
            rw [tr_tr hp, tr_length] at this
            exact this
        have hap1 := tu_app h (!r)
        have hyv := (tu_tl h (!r)).vd h
        have hyl := (tu_tl h (!r)).len
        have e1 := cross _ h.pX h2
        have e2 := cross _ h.pO (by omega)
        rw [← hl] at e2
        have hT : VdG (trl 0 (g.1.length - 1) (vw r g.1), trl 0 (g.1.length - 1) (vw r g.2)) := trl_vd hG (by simp only [hlG]; omega) (by simp only [hlG]; omega)
        have hTl : (trl 0 (g.1.length - 1) (vw r g.1)).length = g.1.length := by rw [trl_length, hlG]
        have bk : ∀ l : List Int, l.length = g.1.length → trl c0 d0 l = trl c0 ((1 + d0) % g.1.length) (trl 0 (g.1.length - 1) l) := fun l hll => by
          refine trl_back (by omega) (by omega) ?_ ?_
          · rw [hll, Nat.zero_add, Nat.mod_eq_of_lt hc0]
          · rw [hll, Nat.add_mod_mod, show g.1.length - 1 + (1 + d0) = d0 + g.1.length by omega, Nat.add_mod_right, Nat.mod_eq_of_lt hd0]
        have k1 := bk (vw r g.1) hlG
        have k2 := bk (vw r g.2) hO2
        simp only [k1, k2] at hcm eY eP
        have w1 := trl_val (X := vw r g.1) hG.pX (c := 0) (d := g.1.length - 1) (i := i) (a := i) (by omega) (by omega) (by omega) (by rw [hlG, Nat.add_zero]; exact (Nat.mod_eq_of_lt hilt).symm)
        have w2 := trl_val (X := vw r g.2) hG.pO (c := 0) (d := g.1.length - 1) (i := i) (a := i) (by omega) (by omega) (by omega) (by rw [hO2, Nat.add_zero]; exact (Nat.mod_eq_of_lt hilt).symm)
        rw [hlG] at w1
        rw [hO2] at w2
        have hA3 : Adj (gt (trl 0 (g.1.length - 1) (vw r g.1)) i) (gt (trl 0 (g.1.length - 1) (vw r g.2)) i) := by
          rw [w1, w2]
          unfold Adj shN
          rcases hends with ⟨p1, p2⟩ | ⟨p1, p2⟩ <;> rw [p1, p2] <;> (repeat' split) <;> omega
        obtain ⟨q1, t⟩ := des_one (G := (trl 0 (g.1.length - 1) (vw r g.1), trl 0 (g.1.length - 1) (vw r g.2))) hT (by simp only [hTl]; exact hc0) (by simp only [hTl]; exact Nat.mod_lt _ (by omega)) (by simp only [hTl]; exact hilt) (by simp only [hTl]; exact hie) hcm hA3
        simp only at q1 t
        rw [eY, eP] at t
        have hcl : colsL (vw r (vw (!r) (rotL (vw (!r) g.1)))) (vw r (vw (!r) (rotL (vw (!r) g.2)))) 3 i 0 = (0, delL (trl 0 (g.1.length - 1) (vw r g.1)) i (minG (gt (trl 0 (g.1.length - 1) (vw r g.1)) i) (gt (trl 0 (g.1.length - 1) (vw r g.2)) i)), delL (trl 0 (g.1.length - 1) (vw r g.2)) i (minG (gt (trl 0 (g.1.length - 1) (vw r g.1)) i) (gt (trl 0 (g.1.length - 1) (vw r g.2)) i))) := by
          rw [e1, e2]
          exact cols3 q1
        have hir2 : inRange 3 (i : Int) 0 (vw (!r) (rotL (vw (!r) g.1))).length := by simp only at hyl; rw [hyl]; exact hir
        have hap := applyM_of (rows := r) (k := 3) (a := (i : Int)) (v := 0) hyv hir2 (by simpa using hcl)
        have hzv := applyM_res_vd hap
        have hsv := delL_vd hT (by simp only [hTl]; exact hilt) q1
        have t2 := t.vw hsv r
        rw [show (vw r Y, vw r P) = y from (Prod.ext ey1 ey2).symm] at t2
        refine inR _ ⟨[tuM (!r), rmM r i], ?_⟩ (hlst _ hzv t2)
        unfold nbR nb1
        refine List.mem_append_left _ (List.mem_append_left _ (List.mem_flatMap.2 ⟨i, List.mem_range.2 hilt, ?_⟩))
        have : rmL g r i = [tuM (!r), rmM r i] := by
          unfold rmL
          rw [if_neg]
          intro h0
          rw [applyM_vw h hir] at h0
          have hcl2 : colsL (vw r g.1) (vw r g.2) 3 i 0 = (6, [], []) := by
            unfold colsL
            rw [if_neg (by decide), if_neg (by decide), if_pos rfl, if_neg]
            intro hd
            exact hA ((desOk_iff hG.len).1 hd).2.1
          simp only [Int.toNat_natCast, Int.toNat_zero, hcl2] at h0
          cases h0
        rw [this]
        exact (tryM_two h _ _).2 ⟨rfl, _, hap1, hap⟩
    · injection hcol with hcol _; cases hcol
end Go.Proofs.YteliflcbegcdlaaGreatDoor

namespace Go.Proofs.YteliflcbegcdlaaGreatDoor
open Go.RowKit
set_option linter.unusedVariables false
theorem cmpL_app : ∀ (a b c d : List Int), a.length = b.length → cmpL (a ++ c) (b ++ d) = if cmpL a b ≠ 0 then cmpL a b else cmpL c d
  | [], [], c, d, _ => by simp [cmpL]
  | [], _ :: _, c, d, h => by simp at h
  | _ :: _, [], c, d, h => by simp at h
  | x :: a, y :: b, c, d, h => by
    have ih := cmpL_app a b c d (by simpa using h)
    simp only [List.cons_append, cmpL]
    by_cases h1 : x < y
    · simp [h1]
    · by_cases h2 : y < x
      · simp [h1, h2]
      · simp only [h1, h2, if_false]; exact ih
/-- p is the least of the translations by a < c, or by c and less than r -/
structure LsU (g : Gd) (c r : Nat) (p : Gd) : Prop where
  tl : Tl g p
  le : ∀ a b, a < g.1.length → b < g.1.length → (a < c ∨ (a = c ∧ b < r)) → 0 ≤ cmpP (trl a b g.1, trl a b g.2) p
theorem LsU.start {g : Gd} (h : VdG g) : LsU g 0 0 g := ⟨Tl.refl h, fun a b _ _ hq => by omega⟩
theorem LsU.row {g p : Gd} {c r : Nat} (h : LsU g c r p) (hr : g.1.length ≤ r) : LsU g (c + 1) 0 p :=
  ⟨h.tl, fun a b ha hb hq => h.le a b ha hb (by omega)⟩
theorem LsU.take {g p : Gd} {c r : Nat} (h : LsU g c r p) (hc : c < g.1.length) (hr : r < g.1.length) (q : cmpP (trl c r g.1, trl c r g.2) p < 0) : LsU g c (r + 1) (trl c r g.1, trl c r g.2) := by
  refine ⟨⟨c, r, hc, hr, rfl⟩, fun a b ha hb hq => ?_⟩
  by_cases e : a = c ∧ b = r
  · obtain ⟨rfl, rfl⟩ := e
    have := cmpP_anti (trl a b g.1, trl a b g.2) (trl a b g.1, trl a b g.2)
    omega
  · have h1 := h.le a b ha hb (by omega)
    have h2 := cmpP_trans (trl a b g.1, trl a b g.2) (trl c r g.1, trl c r g.2) p
    omega
theorem LsU.keep {g p : Gd} {c r : Nat} (h : LsU g c r p) (q : ¬ cmpP (trl c r g.1, trl c r g.2) p < 0) : LsU g c (r + 1) p := by
  refine ⟨h.tl, fun a b ha hb hq => ?_⟩
  by_cases e : a = c ∧ b = r
  · obtain ⟨rfl, rfl⟩ := e; omega
  · exact h.le a b ha hb (by omega)
theorem cmpP_less {p q : Gd} (e : p.1.length = q.1.length) : cmpL (p.1 ++ p.2) (q.1 ++ q.2) = cmpP p q := cmpL_app _ _ _ _ e
theorem LsU.fin {g p : Gd} (h : VdG g) (k : LsU g g.1.length 0 p) : p = lstM g := by
  have h2 := h.two
  have hl := h.len
  obtain ⟨c, r, hc, hr, rfl⟩ := k.tl
  have hL := lstM_isL h
  obtain ⟨c', r', hc', hr', e'⟩ := Tl.least h
  have k1 := k.le c' r' hc' hr' (by omega)
  rw [← e'] at k1
  -- the column that comes first
  have hn : 0 < g.1.length := by omega
  have hi : (g.1.length - c) % g.1.length < g.1.length := Nat.mod_lt _ hn
  generalize hie : (g.1.length - c) % g.1.length = i at *
  have hic : (i + c) % g.1.length = 0 := by rw [← hie, Nat.mod_add_mod, show g.1.length - c + c = g.1.length by omega, Nat.mod_self]
  have hci : (g.1.length - i) % g.1.length = c := by
    by_cases z : c = 0
    · subst z
      rw [Nat.sub_zero, Nat.mod_self] at hie
      subst hie
      rw [Nat.sub_zero, Nat.mod_self]
    · rw [Nat.mod_eq_of_lt (by omega)] at hie
      rw [← hie, show g.1.length - (g.1.length - c) = c by omega, Nat.mod_eq_of_lt hc]
  have hg := h.pX.gt_rng hi
  have v0 := trl_vd_gt h.pX hc hr hi
  rw [hic] at v0
  have hrk : (g.1.length - (gt g.1 i).toNat) % g.1.length < g.1.length := Nat.mod_lt _ hn
  have w0 := trl_vd_gt h.pX hc hrk hi
  rw [hic] at w0
  have kk := k.le c _ hc hrk (by omega)
  have hc2 : cand g.1 g.2 i = (trl c ((g.1.length - (gt g.1 i).toNat) % g.1.length) g.1, trl c ((g.1.length - (gt g.1 i).toNat) % g.1.length) g.2) := by
    unfold cand; rw [hci]
  by_cases er : r = (g.1.length - (gt g.1 i).toNat) % g.1.length
  · rw [← er] at hc2
    have := hL.le i hi
    rw [hc2] at this
    have a := cmpP_anti (lstM g) (trl c r g.1, trl c r g.2)
    exact (cmpP_zero _ _ (by omega))
  · exfalso
    have key : cmpP (trl c ((g.1.length - (gt g.1 i).toNat) % g.1.length) g.1, trl c ((g.1.length - (gt g.1 i).toNat) % g.1.length) g.2) (trl c r g.1, trl c r g.2) < 0 := by
      generalize hq : (g.1.length - (gt g.1 i).toNat) % g.1.length = q at *
      have l1 : 0 < (trl c q g.1).length := by rw [trl_length]; exact hn
      have l2 : 0 < (trl c r g.1).length := by rw [trl_length]; exact hn
      have q0 : gt (trl c q g.1) 0 = 0 := by
        rw [w0]
        by_cases z : (gt g.1 i).toNat = 0
        · rw [z, Nat.sub_zero, Nat.mod_self] at hq; subst hq; rw [if_pos (by omega)]; omega
        · rw [Nat.mod_eq_of_lt (by omega)] at hq; rw [if_neg (by omega)]; omega
      have r0 : 0 < gt (trl c r g.1) 0 := by
        rw [v0]
        by_cases z : (gt g.1 i).toNat = 0
        · rw [z, Nat.sub_zero, Nat.mod_self] at hq; subst hq; rw [if_pos (by omega)]; omega
        · rw [Nat.mod_eq_of_lt (by omega)] at hq
          split
          · omega
          · omega
      unfold cmpP
      have : cmpL (trl c q g.1) (trl c r g.1) < 0 := by
        cases ha : trl c q g.1 with
        | nil => rw [ha] at l1; simp at l1
        | cons x xs =>
          cases hb : trl c r g.1 with
          | nil => rw [hb] at l2; simp at l2
          | cons y ys =>
            rw [ha] at q0
            rw [hb] at r0
            have q0' : x = 0 := q0
            have r0' : 0 < y := r0
            simp only [cmpL]
            rw [if_pos (by omega)]
            omega
      simp only
      rw [if_pos (by omega)]
      exact this
    omega
end Go.Proofs.YteliflcbegcdlaaGreatDoor

namespace Go.Proofs.YteliflcbegcdlaaGreatDoor
open Go.RowKit
set_option linter.unusedVariables false
theorem heap_box {w : World} {t : TypeId} {a b : Value} (n : Nat) (h : n = w.heap.size) : Arr (w.alloc (.cells #[a, b] t)) n t [a, b] := Arr.newAt w t [a, b] n h
theorem IntsE.far {E : Nat → Prop} {w : World} {v : Value} {xs : List Int} (h : Ints w v xs) (hE : ∀ b, E b → w.heap.size ≤ b) : IntsE E w v xs :=
  fun W hW => h.keep fun b o hlt => by
    have := hW b (fun e => by have := hE b e; omega) hlt
    unfold World.cell?
    rw [this]
/-- the boxes of Least, and its best so far -/
structure LsW (n : Nat) (sX sO : Value) (w : World) (v0 v1 : Value) (p : Gd) (wr : World) : Prop where
  b0 : Arr wr n 24 [sX, sO]
  b1 : Arr wr (n + 1) 24 [.slice none 0 0, .slice none 0 0]
  b2 : Arr wr (n + 2) 24 [v0, v1]
  i1 : IntsE (fun b => b = n + 1 ∨ b = n + 2) wr v0 p.1
  i2 : IntsE (fun b => b = n + 1 ∨ b = n + 2) wr v1 p.2
  bel : Below n w wr
theorem LsW.below {n : Nat} {sX sO v0 v1 : Value} {w wr wr' : World} {p : Gd} (h : LsW n sX sO w v0 v1 p wr) (hb : Below wr.heap.size wr wr') : LsW n sX sO w v0 v1 p wr' :=
  ⟨h.b0.below hb h.b0.lt, h.b1.below hb h.b1.lt, h.b2.below hb h.b2.lt, h.i1.below hb, h.i2.below hb, h.bel.trans (hb.mono (by have := h.b0.lt; omega))⟩
set_option maxHeartbeats 4000000 in
set_option maxRecDepth 100000 in
theorem refLeast_any (vx vo : Value) (X O : List Int) (w : World) (hX : Ints w vx X) (hO : Ints w vo O) (hv : Vd X O) :
    Calls Tryz.prog 23 #[.agg #[vx, vo]] w fun e w' => ∃ A0 n0 c0 A1 n1 c1, e = .returned (.agg #[.slice A0 n0 c0, .slice A1 n1 c1]) ∧ Ints w' (.slice A0 n0 c0) (lstM (X, O)).1 ∧ Ints w' (.slice A1 n1 c1) (lstM (X, O)).2 ∧ Below w.heap.size w w' := by
  have h40 := hv.most
  have h2 := hv.two
  have HL := Lib.hid hv.len
  have HV := Lib.hid hv
  clear hv
  have hX0 := hX
  have hO0 := hO
  obtain ⟨A, c, rfl, hc, hh⟩ := hX
  obtain ⟨A', c', rfl, hc', hh'⟩ := hO
  clear hh hh'
  go_enter Tryz.func23, Tryz.ntmps23
  go_upto_region 1 with fail
  have hW : ∀ W, W = ((w.alloc (.cells #[.slice A X.length c, .slice A' O.length c'] 24)).alloc (.cells #[.slice none 0 0, .slice none 0 0] 24)) → Arr W w.heap.size 24 [.slice A X.length c, .slice A' O.length c'] ∧ Arr W (w.heap.size + 1) 24 [.slice none 0 0, .slice none 0 0] ∧ Below w.heap.size w W ∧ W.heap.size = w.heap.size + 2 := by
    rintro W rfl
    exact ⟨(Arr.new _ _ [_, _]).alloc _, Arr.newAt (w.alloc _) _ [_, _] _ (by simp), ((Below.refl _ _).alloc (Nat.le_refl _) _).alloc (by simp) _, by simp⟩
  generalize ((w.alloc (.cells #[.slice A X.length c, .slice A' O.length c'] 24)).alloc (.cells #[.slice none 0 0, .slice none 0 0] 24)) = w2 at hW ⊢
  obtain ⟨p0, p1, hb2, hs2⟩ := hW w2 rfl
  clear hW
  have y0 := p0.cell 0
  have y1 := p0.cell 1
  go_upto_region 2 with fail
  have hL1 : ∀ W, W = w2.alloc (.cells #[.slice A X.length c, .slice A' O.length c'] 24) → LsW w.heap.size (.slice A X.length c) (.slice A' O.length c') w (.slice A X.length c) (.slice A' O.length c') (X, O) W := by
    rintro W rfl
    have hb3 := (Below.refl w2.heap.size w2).alloc (Nat.le_refl _) (.cells #[.slice A X.length c, .slice A' O.length c'] 24)
    have hb := hb2.trans (hb3.mono hb2.size)
    exact ⟨p0.alloc _, p1.alloc _, heap_box _ hs2.symm, ((IntsE.far hX0 (fun b h => by omega)).below hb), ((IntsE.far hO0 (fun b h => by omega)).below hb), hb⟩
  generalize w2.alloc (.cells #[.slice A X.length c, .slice A' O.length c'] 24) = w3 at hL1 ⊢
  have L3 := Lib.hid (hL1 w3 rfl)
  have HSH := Lib.hid (fun (W : World) (hb : Below w.heap.size w W) (cc rr : Nat) (hc : cc < X.length) (hr : rr < X.length) => refShift_any (.slice A X.length c) (.slice A' O.length c') X O cc rr W (hX0.below hb) (hO0.below hb) HV.out hc hr)
  obtain ⟨n, hn⟩ : ∃ n, n = w.heap.size := ⟨_, rfl⟩
  rw [← hn] at L3 HSH ⊢
  clear hL1 p0 p1 hb2 hs2 y0 y1 hX0 hO0 hc hc'
  have HN := Lib.hid hn
  clear hn
  obtain ⟨m, hm⟩ : ∃ m, m = X.length := ⟨_, rfl⟩
  obtain ⟨m', hm'⟩ : ∃ m, m = O.length := ⟨_, rfl⟩
  rw [← hm] at L3 HSH h40 h2 ⊢
  rw [← hm'] at L3 HSH ⊢
  have HM := Lib.hid hm
  have HM' := Lib.hid hm'
  clear hm hm'
  go_wp2_with fail
  go_loopw [4] (fun i wr => ∃ (k : Nat) (A0 A1 : Option Addr) (n0 c0 n1 c1 : Nat) (p : Gd), k ≤ m ∧ i = .int .i64 k ∧ Hid (LsW n (.slice A m c) (.slice A' m' c') w (.slice A0 n0 c0) (.slice A1 n1 c1) p wr) ∧ Hid (LsU (X, O) k 0 p)) (fun i _ => m - (intOf i).toNat)
  case atStart => exact ⟨0, _, _, _, _, _, _, (X, O), Nat.zero_le _, rfl, L3, Lib.hid (LsU.start HV.out)⟩
  case round =>
    clear L3
    obtain ⟨k, A0, A1, n0, c0, n1, c1, p, hk, rfl, LW, LU⟩ := hrel
    have y0 := LW.out.b0.cell 0
    have y1 := LW.out.b0.cell 1
    by_cases hlt : k < m
    · have z1 : (k : Int) < (m : Int) := by omega
      go_wp2_with fail
      obtain ⟨wo, hwo⟩ : ∃ W, W = wr := ⟨_, rfl⟩
      go_loopw [5] (fun i wr => ∃ (r : Nat) (A0 A1 : Option Addr) (n0 c0 n1 c1 : Nat) (p : Gd), r ≤ m ∧ i = .int .i64 r ∧ Hid (LsW n (.slice A m c) (.slice A' m' c') w (.slice A0 n0 c0) (.slice A1 n1 c1) p wr) ∧ Hid (LsU (X, O) k r p)) (fun i _ => m - (intOf i).toNat)
      case atStart => exact ⟨0, _, _, _, _, _, _, p, Nat.zero_le _, rfl, LW, LU⟩
      case round =>
        clear y0 y1 LW LU hwo
        obtain ⟨r, A0, A1, n0, c0, n1, c1, p, hr, rfl, LW, LU⟩ := hrel
        have y0 := LW.out.b0.cell 0
        have y1 := LW.out.b0.cell 1
        by_cases hlt2 : r < m
        · have z2 : (r : Int) < (m : Int) := by omega
          have HS1 := Lib.hid (HSH.out _ LW.out.bel k r hlt hlt2)
          go_upto_region 9 with (go_at_call 41; refine HS1.out.mono ?_; rintro e w5 ⟨v5, rfl, ⟨gx, go, rfl, ng, lx, lo, ax, ao⟩, hb5⟩)
          have HT := Lib.hid (show cmpP (trl k r X, trl k r O) p < 0 → LsU (X, O) k (r + 1) (trl k r X, trl k r O) from fun h => LU.out.take (by show k < X.length; rw [← HM.out]; exact hlt) (by show r < X.length; rw [← HM.out]; exact hlt2) h)
          have HK := Lib.hid (show ¬ cmpP (trl k r X, trl k r O) p < 0 → LsU (X, O) k (r + 1) p from fun h => LU.out.keep h)
          have e1 : (trl k r X).length = m := (trl_length _ _ _).trans HM.out.symm
          have e2 : (trl k r O).length = m' := (trl_length _ _ _).trans HM'.out.symm
          have q1 : p.1.length = m := (LU.out.tl.len).trans HM.out.symm
          have q2 : p.2.length = m' := ((LU.out.tl.vd HV.out).len).symm.trans (q1.trans (HM.out.trans (HL.out.trans HM'.out.symm)))
          have hmm : m' = m := HM'.out.trans (HL.out.symm.trans HM.out.symm)
          have t1 : IntsE (fun b => b = n + 1 ∨ b = n + 2) w5 (.slice (some ⟨gx, 0, none⟩) (trl k r X).length (trl k r X).length) (trl k r X) := IntsE.of_arr ax (by have := LW.out.b2.lt; omega)
          have t2 : IntsE (fun b => b = n + 1 ∨ b = n + 2) w5 (.slice (some ⟨go, 0, none⟩) (trl k r O).length (trl k r O).length) (trl k r O) := IntsE.of_arr ao (by have := LW.out.b2.lt; omega)
          rw [e1] at t1 ⊢
          rw [e2] at t2 ⊢
          generalize trl k r X = T1 at *
          generalize trl k r O = T2 at *
          have L5 := LW.out.below hb5
          have hal := (Below.refl w5.heap.size w5).alloc (Nat.le_refl _) (.cells #[.slice (some ⟨gx, 0, none⟩) m m, .slice (some ⟨go, 0, none⟩) m' m'] 24)
          have L6 := Lib.hid (L5.below hal)
          have X6 := Lib.hid (heap_box (w := w5) (t := 24) (a := .slice (some ⟨gx, 0, none⟩) m m) (b := .slice (some ⟨go, 0, none⟩) m' m') w5.heap.size rfl)
          have T6 := Lib.hid (And.intro (t1.below hal) (t2.below hal))
          have HG := Lib.hid (show n + 2 < w5.heap.size from Nat.lt_of_lt_of_le LW.out.b2.lt hb5.size)
          generalize w5.alloc (.cells #[.slice (some ⟨gx, 0, none⟩) m m, .slice (some ⟨go, 0, none⟩) m' m'] 24) = w6 at L6 X6 T6 ⊢
          generalize w5.heap.size = g6 at X6 HG ⊢
          clear y0 y1 HS1 hb5 t1 t2 L5 hal ax ao LW
          have y0 := X6.out.cell 0
          have y1 := X6.out.cell 1
          have y2 := L6.out.b2.cell 0
          have y3 := L6.out.b2.cell 1
          obtain ⟨P1, P2⟩ := p
          dsimp only at q1 q2
          have HLS := Lib.hid (refLess_any _ _ _ _ T1 T2 P1 P2 w6 T6.out.1.ints T6.out.2.ints L6.out.i1.ints L6.out.i2.ints (by omega) (by omega) (by omega) (by omega))
          rw [cmpP_less (p := (T1, T2)) (q := (P1, P2)) (show T1.length = P1.length by omega)] at HLS
          generalize cmpP (T1, T2) (P1, P2) = d at HLS HT HK
          have Q12 := Lib.hid (And.intro q1 q2)
          clear e1 e2 q1 q2 hmm LU
          by_cases hd : d < 0
          · have HI3 := Lib.hid (HT.out hd)
            rw [decide_eq_true hd] at HLS
            clear HT HK hd
            go_wp2_with (go_at_call 42; refine HLS.out.mono ?_; rintro e w7 ⟨rfl, hb7⟩; have L7 := L6.out.below hb7; have z2 := L7.b2.frozen 0; have z3 := L7.b2.frozen 1; have z4 := L7.b2.cell 0; have z5 := L7.b2.cell 1; have u0 := (X6.out.below hb7 X6.out.lt).cell 0; have u1 := (X6.out.below hb7 X6.out.lt).cell 1; have hl7 := L7.b2.lt; have T7 := Lib.hid (And.intro (T6.out.1.below hb7) (T6.out.2.below hb7)); clear y0 y1 y2 y3 hb7)
            go_roundw
            case rel => exact ⟨r + 1, _, _, _, _, _, _, (T1, T2), by omega, by go_num, Lib.hid ⟨L7.b0.far2 (r := n + 2) (by omega), L7.b1.far2 (r := n + 2) (by omega), (L7.b2.set 0 (.slice (some ⟨gx, 0, none⟩) m m)).set 1 (.slice (some ⟨go, 0, none⟩) m' m'), T7.out.1.set2 (.inr rfl) _ _ _ _, T7.out.2.set2 (.inr rfl) _ _ _ _, bset2 (r := n + 2) L7.bel (by omega)⟩, HI3⟩
            case measure => simp [intOf]; omega
          · have HI3 := Lib.hid (HK.out hd)
            rw [decide_eq_false hd] at HLS
            clear HT HK hd
            go_wp2_with (go_at_call 42; refine HLS.out.mono ?_; rintro e w7 ⟨rfl, hb7⟩; have L7 := Lib.hid (L6.out.below hb7); clear y0 y1 y2 y3 hb7)
            go_roundw
            case rel => exact ⟨r + 1, _, _, _, _, _, _, (P1, P2), by omega, by go_num, L7, HI3⟩
            case measure => simp [intOf]; omega
        · obtain rfl : r = m := by omega
          have LU2 := Lib.hid (LU.out.row (by rw [← HM.out]; exact Nat.le_refl _))
          go_wp2_with fail
          go_roundw
          case rel => exact ⟨k + 1, _, _, _, _, _, _, p, by omega, by go_num, LW, LU2⟩
          case measure => simp [intOf]; omega
    · obtain rfl : k = m := by omega
      have z0 := LW.out.b2.cell 0
      have z1 := LW.out.b2.cell 1
      have x0 := LW.out.b1.cell 0
      have x1 := LW.out.b1.cell 1
      have x2 := LW.out.b1.frozen 0
      have x3 := LW.out.b1.frozen 1
      have hp := (show LsU (X, O) (X, O).1.length 0 p by show LsU (X, O) X.length 0 p; rw [← HM.out]; exact LU.out).fin HV.out
      subst hp
      clear LU
      obtain ⟨i1, i2⟩ := And.intro LW.out.i1 LW.out.i2
      have hres := Lib.hid ((LW.out.b1.set 0 (.slice A0 n0 c0)).set 1 (.slice A1 n1 c1))
      have I12 := Lib.hid (And.intro (i1.set2 (.inl rfl) 0 1 (.slice A0 n0 c0) (.slice A1 n1 c1)).ints (i2.set2 (.inl rfl) 0 1 (.slice A0 n0 c0) (.slice A1 n1 c1)).ints)
      have hl7 := LW.out.b1.lt
      clear i1 i2
      go_wp2_with fail
      refine bodyPost_ret (v := .agg #[.slice A0 n0 c0, .slice A1 n1 c1]) (results_c Tryz.results23 _ _ (n + 1) 24 _ _ rfl hres.out Tryz.underlying24 rfl info_grid) rfl ?_
      exact ⟨_, _, _, _, _, _, rfl, I12.out.1, I12.out.2, by rw [← HN.out]; exact bset2 (r := n + 1) LW.out.bel (by omega)⟩
end Go.Proofs.YteliflcbegcdlaaGreatDoor
