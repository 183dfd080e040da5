/- gridmove.stabilize. -/
import Derived.Test.YteliflcbegcdlaaGreatDoorProg
import Derived.Test.YteliflcbegcdlaaGreatDoorWwBase
import Derived.Test.YteliflcbegcdlaaGreatDoorWwBase2
import Derived.Test.YteliflcbegcdlaaGreatDoorWwGrf
import Derived.Test.YteliflcbegcdlaaGreatDoorWwPerm
import Derived.Test.YteliflcbegcdlaaGreatDoorWwTrans
import Derived.KernelRfl
import Derived.Outline
import Derived.Deep.RegionHeld3
import Derived.Deep.DeepCutAuto
namespace Go.Proofs.YteliflcbegcdlaaGreatDoor
set_option linter.unusedVariables false
open Go.RowKit
def staX (X : List Int) (a r : Nat) (stays : Bool) : List Int := (reloc (mvAdd r stays a) true (X.length + 1) X).set a (if stays then r + 1 else r)
def staO (n : Nat) (O : List Int) (a r : Nat) (stays : Bool) : List Int := (reloc (mvAdd r stays a) false (n + 1) O).set a (if stays then r else r + 1)
def StaMid (B : Nat) (w : World) (g gx go : Nat) (X1 O1 : List Int) (a r : Int) : Prop :=
  Arr w (B + 1) 3 [.int .i64 a] ∧ Arr w (B + 2) 3 [.int .i64 r] ∧ Arr w (B + 4) 24 [.slice none 0 0, .slice none 0 0] ∧
  Arr w g 24 [.slice (some ⟨gx, 0, none⟩) X1.length X1.length, .slice (some ⟨go, 0, none⟩) O1.length O1.length] ∧
  Arr w gx 3 (ints X1) ∧ Arr w go 3 (ints O1) ∧ gx ≠ go ∧ B + 5 ≤ gx ∧ B + 5 ≤ go ∧ B + 5 ≤ g ∧ g ≠ gx ∧ g ≠ go
theorem StaMid.setX {B : Nat} {w : World} {g gx go : Nat} {X O : List Int} {a r : Int} (h : StaMid B w g gx go X O a r) (i : Nat) (x : Int) :
    StaMid B (w.setCell ⟨gx, i, none⟩ (.int .i64 x)) g gx go (X.set i x) O a r := by
  obtain ⟨h1, h2, h3, h4, h5, h6, e1, e2, e3, e4, e5, e6⟩ := h
  refine ⟨h1.far (p := ⟨gx, i, none⟩) (by show B + 1 ≠ gx; omega) _, h2.far (p := ⟨gx, i, none⟩) (by show B + 2 ≠ gx; omega) _, h3.far (p := ⟨gx, i, none⟩) (by show B + 4 ≠ gx; omega) _, ?_, ?_, h6.far (p := ⟨gx, i, none⟩) (fun h => e1 h.symm) _, e1, e2, e3, e4, e5, e6⟩
  · rw [List.length_set]; exact h4.far (p := ⟨gx, i, none⟩) e5 _
  · rw [← ints_set]; exact h5.set _ _
theorem StaMid.setO {B : Nat} {w : World} {g gx go : Nat} {X O : List Int} {a r : Int} (h : StaMid B w g gx go X O a r) (i : Nat) (x : Int) :
    StaMid B (w.setCell ⟨go, i, none⟩ (.int .i64 x)) g gx go X (O.set i x) a r := by
  obtain ⟨h1, h2, h3, h4, h5, h6, e1, e2, e3, e4, e5, e6⟩ := h
  refine ⟨h1.far (p := ⟨go, i, none⟩) (by show B + 1 ≠ go; omega) _, h2.far (p := ⟨go, i, none⟩) (by show B + 2 ≠ go; omega) _, h3.far (p := ⟨go, i, none⟩) (by show B + 4 ≠ go; omega) _, ?_, h5.far (p := ⟨go, i, none⟩) e1 _, ?_, e1, e2, e3, e4, e5, e6⟩
  · rw [List.length_set]; exact h4.far (p := ⟨go, i, none⟩) e6 _
  · rw [← ints_set]; exact h6.set _ _
theorem StaMid.drew {B : Nat} {w : World} {g gx go : Nat} {X O : List Int} {a r : Int} (h : StaMid B w g gx go X O a r) : StaMid B w.drew g gx go X O a r := h
theorem mvAdd_lt (r0 r : Int) (st b : Bool) (a k : Nat) {n : Nat} (hk : k < n) : (mvAdd r0 st a k r b).1 < ((n + 1 : Nat) : Int) := by
  simp only [mvAdd]
  repeat' split
  all_goals omega
set_option maxHeartbeats 1000000 in
theorem stabilize_any (vx vo : Value) (X O : List Int) (a r : Nat) (stays : Bool) (w : World) (hX : Ints w vx X) (hO : Ints w vo O) (hl : X.length ≤ 500) (hlen : X.length = O.length) (ha : a ≤ X.length) (hr : r ≤ 500)
    (rX : Rows X.length X) (rO : Rows X.length O) :
    Calls Tryz.prog 95 #[.agg #[vx, vo], .int .i64 a, .int .i64 r, .bool stays] w
      fun e w' => ∃ v, e = .returned v ∧ NewGrid w.heap.size w' v (staX X a r stays) (staO X.length O a r stays) ∧ Below w.heap.size w w' := by
  have HL := Lib.hid hlen
  clear hlen
  have hX0 := hX
  have hO0 := hO
  obtain ⟨A, c, rfl, hc, hh⟩ := hX
  obtain ⟨A', c', rfl, hc', hh'⟩ := hO
  clear hh hh'
  go_enter Tryz.func95, Tryz.ntmps95
  go_wp2_with fail
  have hW : Arr (((((w.alloc (.cells #[.slice A X.length c, .slice A' O.length c'] 24)).alloc (.cells #[.int .i64 (a : Int)] 3)).alloc (.cells #[.int .i64 (r : Int)] 3)).alloc (.cells #[.bool stays] 4)).alloc (.cells #[.slice none 0 0, .slice none 0 0] 24)) w.heap.size 24 [.slice A X.length c, .slice A' O.length c'] ∧ Arr (((((w.alloc (.cells #[.slice A X.length c, .slice A' O.length c'] 24)).alloc (.cells #[.int .i64 (a : Int)] 3)).alloc (.cells #[.int .i64 (r : Int)] 3)).alloc (.cells #[.bool stays] 4)).alloc (.cells #[.slice none 0 0, .slice none 0 0] 24)) (w.heap.size + 1) 3 [.int .i64 (a : Int)] ∧ Arr (((((w.alloc (.cells #[.slice A X.length c, .slice A' O.length c'] 24)).alloc (.cells #[.int .i64 (a : Int)] 3)).alloc (.cells #[.int .i64 (r : Int)] 3)).alloc (.cells #[.bool stays] 4)).alloc (.cells #[.slice none 0 0, .slice none 0 0] 24)) (w.heap.size + 2) 3 [.int .i64 (r : Int)] ∧ Arr (((((w.alloc (.cells #[.slice A X.length c, .slice A' O.length c'] 24)).alloc (.cells #[.int .i64 (a : Int)] 3)).alloc (.cells #[.int .i64 (r : Int)] 3)).alloc (.cells #[.bool stays] 4)).alloc (.cells #[.slice none 0 0, .slice none 0 0] 24)) (w.heap.size + 3) 4 [.bool stays] ∧
      Arr (((((w.alloc (.cells #[.slice A X.length c, .slice A' O.length c'] 24)).alloc (.cells #[.int .i64 (a : Int)] 3)).alloc (.cells #[.int .i64 (r : Int)] 3)).alloc (.cells #[.bool stays] 4)).alloc (.cells #[.slice none 0 0, .slice none 0 0] 24)) (w.heap.size + 4) 24 [.slice none 0 0, .slice none 0 0] ∧ Below w.heap.size w (((((w.alloc (.cells #[.slice A X.length c, .slice A' O.length c'] 24)).alloc (.cells #[.int .i64 (a : Int)] 3)).alloc (.cells #[.int .i64 (r : Int)] 3)).alloc (.cells #[.bool stays] 4)).alloc (.cells #[.slice none 0 0, .slice none 0 0] 24)) ∧ (((((w.alloc (.cells #[.slice A X.length c, .slice A' O.length c'] 24)).alloc (.cells #[.int .i64 (a : Int)] 3)).alloc (.cells #[.int .i64 (r : Int)] 3)).alloc (.cells #[.bool stays] 4)).alloc (.cells #[.slice none 0 0, .slice none 0 0] 24)).heap.size = w.heap.size + 5 :=
    ⟨((((Arr.new _ _ [_, _]).alloc _).alloc _).alloc _).alloc _, (((Arr.newAt (w.alloc _) _ [_] _ (by simp)).alloc _).alloc _).alloc _, ((Arr.newAt ((w.alloc _).alloc _) _ [_] _ (by simp)).alloc _).alloc _, (Arr.newAt (((w.alloc _).alloc _).alloc _) _ [_] _ (by simp)).alloc _, Arr.newAt ((((w.alloc _).alloc _).alloc _).alloc _) _ [_, _] _ (by simp),
      (((((Below.refl _ _).alloc (Nat.le_refl _) _).alloc (by simp) _).alloc (by simp <;> omega) _).alloc (by simp <;> omega) _).alloc (by simp <;> omega) _, by simp⟩
  generalize (((((w.alloc (.cells #[.slice A X.length c, .slice A' O.length c'] 24)).alloc (.cells #[.int .i64 (a : Int)] 3)).alloc (.cells #[.int .i64 (r : Int)] 3)).alloc (.cells #[.bool stays] 4)).alloc (.cells #[.slice none 0 0, .slice none 0 0] 24)) = w5 at hW ⊢
  obtain ⟨q0, q1, q2, q3, q4, hb5, hs5⟩ := hW
  rw [show ((X.length : Int) + 1) = ((X.length + 1 : Nat) : Int) from by omega]
  refine (relocate_any _ _ X O (X.length + 1) 105 #[.pointer (some ⟨w.heap.size + 2, 0, none⟩), .pointer (some ⟨w.heap.size + 3, 0, none⟩), .pointer (some ⟨w.heap.size + 1, 0, none⟩)] (mvAdd r stays a) _ Tryz.call105 (by omega) (hX0.below hb5) (hO0.below hb5) HL.out (by omega)
    (fun W hW k h => stabilize1_any k X[k] r a true stays (w.heap.size + 2) (w.heap.size + 3) (w.heap.size + 1) W (by omega) (by omega) (by omega) (by omega) (rX.get h).1 (by have := (rX.get h).2; omega) (by omega) (by omega) ((q2.below hW q2.lt).cell 0) ((q3.below hW q3.lt).cell 0) ((q1.below hW q1.lt).cell 0))
    (fun W hW k h => stabilize1_any k O[k] r a false stays (w.heap.size + 2) (w.heap.size + 3) (w.heap.size + 1) W (by omega) (by have := HL.out; omega) (by omega) (by omega) (rO.get h).1 (by have := (rO.get h).2; omega) (by omega) (by omega) ((q2.below hW q2.lt).cell 0) ((q3.below hW q3.lt).cell 0) ((q1.below hW q1.lt).cell 0))
    (fun k h => mvAdd_lt _ _ _ _ _ _ h) (fun k h => mvAdd_lt _ _ _ _ _ _ (by have := HL.out; omega))).mono ?_
  rintro e w1 ⟨v, rfl, ⟨gx, go, rfl, e1, e2, e3, a1, a2⟩, hb⟩
  have f1 := q1.below hb q1.lt
  have f2 := q2.below hb q2.lt
  have f3 := q3.below hb q3.lt
  have f4 := q4.below hb q4.lt
  have hbw := hb5.trans (hb.mono hb5.size)
  have HS := Lib.hid hs5
  have z3 := f3.cell 0
  have l1 := f1.lt
  have l2 := f2.lt
  have l3 := f3.lt
  rw [hs5] at e2 e3
  clear hb q0 q1 q2 q3 q4 hs5
  have hx1 : (reloc (mvAdd r stays a) true (X.length + 1) X).length = X.length + 1 := by simp [reloc, relTo_length]
  have ho1 : (reloc (mvAdd r stays a) false (X.length + 1) O).length = X.length + 1 := by simp [reloc, relTo_length]
  have hX1 := Lib.hid hx1
  have hO1 := Lib.hid ho1
  clear hx1 ho1
  cases stays with
  | true =>
    go_upto_region 3 with fail
    have hM : StaMid w.heap.size (w1.alloc (.cells #[.slice (some ⟨gx, 0, none⟩) (reloc (mvAdd r true a) true (X.length + 1) X).length (reloc (mvAdd r true a) true (X.length + 1) X).length, .slice (some ⟨go, 0, none⟩) (reloc (mvAdd r true a) false (X.length + 1) O).length (reloc (mvAdd r true a) false (X.length + 1) O).length] 24)) w1.heap.size gx go (reloc (mvAdd r true a) true (X.length + 1) X) (reloc (mvAdd r true a) false (X.length + 1) O) a r ∧ Below w.heap.size w (w1.alloc (.cells #[.slice (some ⟨gx, 0, none⟩) (reloc (mvAdd r true a) true (X.length + 1) X).length (reloc (mvAdd r true a) true (X.length + 1) X).length, .slice (some ⟨go, 0, none⟩) (reloc (mvAdd r true a) false (X.length + 1) O).length (reloc (mvAdd r true a) false (X.length + 1) O).length] 24)) :=
      ⟨⟨f1.alloc _, f2.alloc _, f4.alloc _, Arr.new w1 _ [_, _], a1.alloc _, a2.alloc _, e1, by omega, by omega, by have := f4.lt; omega, by have := a1.lt; omega, by have := a2.lt; omega⟩, hbw.alloc hbw.size _⟩
    generalize (w1.alloc (.cells #[.slice (some ⟨gx, 0, none⟩) (reloc (mvAdd r true a) true (X.length + 1) X).length (reloc (mvAdd r true a) true (X.length + 1) X).length, .slice (some ⟨go, 0, none⟩) (reloc (mvAdd r true a) false (X.length + 1) O).length (reloc (mvAdd r true a) false (X.length + 1) O).length] 24)) = w6 at hM ⊢
    generalize w1.heap.size = g at hM ⊢
    obtain ⟨hm, hb6⟩ := hM
    clear f1 f2 f3 f4 a1 a2 z3 l1 l2 l3 hbw
    have m1 := hm.1.cell 0
    have m2 := hm.2.1.cell 0
    have m3 := hm.2.2.2.1.cell 0
    have m4 := hm.2.2.2.1.cell 1
    have hax : a < (reloc (mvAdd r true a) true (X.length + 1) X).length := by rw [hX1.out]; omega
    have hao : a < (reloc (mvAdd r true a) false (X.length + 1) O).length := by rw [hO1.out]; omega
    have m5 := (hm.2.2.2.2.1.cell a).trans (ints_get _ hax)
    have m6 := (hm.2.2.2.2.2.1.cell a).trans (ints_get _ hao)
    have m7 := hm.2.2.2.2.1.frozen a
    have m8 := hm.2.2.2.2.2.1.frozen a
    have n1 := hm.2.2.2.2.2.2.1
    have n2 := hm.2.2.2.2.2.2.2.2.2.2.1.symm
    have n3 := hm.2.2.2.2.2.2.2.2.2.2.2.symm
    have n8 := n1.symm
    have n4 : gx ≠ w.heap.size + 1 := by omega
    have n5 : gx ≠ w.heap.size + 2 := by omega
    have n6 : go ≠ w.heap.size + 1 := by omega
    have n7 : go ≠ w.heap.size + 2 := by omega
    go_cut [] (fun wx => StaMid w.heap.size wx g gx go ((reloc (mvAdd r true a) true (X.length + 1) X).set a ((r : Int) + 1)) ((reloc (mvAdd r true a) false (X.length + 1) O).set a ((r : Int))) a r ∧ Below w.heap.size w wx)
    case first =>
      go_region_held3 (fun w' => w'.cell? ⟨g, 0, none⟩ = some (.slice (some ⟨gx, 0, none⟩) (reloc (mvAdd r true a) true (X.length + 1) X).length (reloc (mvAdd r true a) true (X.length + 1) X).length) ∧ w'.cell? ⟨g, 1, none⟩ = some (.slice (some ⟨go, 0, none⟩) (reloc (mvAdd r true a) false (X.length + 1) O).length (reloc (mvAdd r true a) false (X.length + 1) O).length) ∧ w'.cell? ⟨w.heap.size + 1, 0, none⟩ = some (.int .i64 (a : Int)) ∧ w'.cell? ⟨w.heap.size + 2, 0, none⟩ = some (.int .i64 (r : Int))) (go_keep) (first | fail)
      go_wp2_with fail
      go_meet
      rw [show IntKind.i64.wrap ((r : Int) + 1) = (r : Int) + 1 from IntWalk.i64_in _ (by omega)]
      exact ⟨((hm.setO a r).setX a ((r : Int) + 1)).drew, ((hb6.setCell (p := ⟨go, a, none⟩) (by show w.heap.size ≤ go; omega) _).setCell (p := ⟨gx, a, none⟩) (by show w.heap.size ≤ gx; omega) _).drew⟩
    case rest =>
      clear m1 m2 m3 m4 m5 m6 m7 m8 n4 n5 n6 n7 hm hb6
      obtain ⟨hm, hb6⟩ := hcut
      have m3 := hm.2.2.2.1.cell 0
      have m4 := hm.2.2.2.1.cell 1
      have hr := hm.2.2.1
      have s0 := hr.cell 0
      have s1 := hr.cell 1
      have s2 := hr.frozen 0
      have s3 := hr.frozen 1
      have hres := Lib.hid ((hr.set 0 (.slice (some ⟨gx, 0, none⟩) (reloc (mvAdd r true a) true (X.length + 1) X).length (reloc (mvAdd r true a) true (X.length + 1) X).length)).set 1 (.slice (some ⟨go, 0, none⟩) (reloc (mvAdd r true a) false (X.length + 1) O).length (reloc (mvAdd r true a) false (X.length + 1) O).length))
      go_wp2_with fail
      refine bodyPost_ret (v := .agg #[.slice (some ⟨gx, 0, none⟩) (reloc (mvAdd r true a) true (X.length + 1) X).length (reloc (mvAdd r true a) true (X.length + 1) X).length, .slice (some ⟨go, 0, none⟩) (reloc (mvAdd r true a) false (X.length + 1) O).length (reloc (mvAdd r true a) false (X.length + 1) O).length]) (results_c Tryz.results95 _ _ (w.heap.size + 4) 24 _ _ rfl hres.out Tryz.underlying24 rfl info_grid) rfl ⟨_, rfl, ?_, ?_⟩
      · exact ⟨gx, go, by simp only [staX, staO, List.length_set], hm.2.2.2.2.2.2.1, by omega, by omega, hm.2.2.2.2.1.far2 (r := w.heap.size + 4) (by omega), hm.2.2.2.2.2.1.far2 (r := w.heap.size + 4) (by omega)⟩
      · exact bset2 (r := w.heap.size + 4) hb6 (by omega)
  | false =>
    go_upto_region 4 with fail
    have hM : StaMid w.heap.size (w1.alloc (.cells #[.slice (some ⟨gx, 0, none⟩) (reloc (mvAdd r false a) true (X.length + 1) X).length (reloc (mvAdd r false a) true (X.length + 1) X).length, .slice (some ⟨go, 0, none⟩) (reloc (mvAdd r false a) false (X.length + 1) O).length (reloc (mvAdd r false a) false (X.length + 1) O).length] 24)) w1.heap.size gx go (reloc (mvAdd r false a) true (X.length + 1) X) (reloc (mvAdd r false a) false (X.length + 1) O) a r ∧ Below w.heap.size w (w1.alloc (.cells #[.slice (some ⟨gx, 0, none⟩) (reloc (mvAdd r false a) true (X.length + 1) X).length (reloc (mvAdd r false a) true (X.length + 1) X).length, .slice (some ⟨go, 0, none⟩) (reloc (mvAdd r false a) false (X.length + 1) O).length (reloc (mvAdd r false a) false (X.length + 1) O).length] 24)) :=
      ⟨⟨f1.alloc _, f2.alloc _, f4.alloc _, Arr.new w1 _ [_, _], a1.alloc _, a2.alloc _, e1, by omega, by omega, by have := f4.lt; omega, by have := a1.lt; omega, by have := a2.lt; omega⟩, hbw.alloc hbw.size _⟩
    generalize (w1.alloc (.cells #[.slice (some ⟨gx, 0, none⟩) (reloc (mvAdd r false a) true (X.length + 1) X).length (reloc (mvAdd r false a) true (X.length + 1) X).length, .slice (some ⟨go, 0, none⟩) (reloc (mvAdd r false a) false (X.length + 1) O).length (reloc (mvAdd r false a) false (X.length + 1) O).length] 24)) = w6 at hM ⊢
    generalize w1.heap.size = g at hM ⊢
    obtain ⟨hm, hb6⟩ := hM
    clear f1 f2 f3 f4 a1 a2 z3 l1 l2 l3 hbw
    have m1 := hm.1.cell 0
    have m2 := hm.2.1.cell 0
    have m3 := hm.2.2.2.1.cell 0
    have m4 := hm.2.2.2.1.cell 1
    have hax : a < (reloc (mvAdd r false a) true (X.length + 1) X).length := by rw [hX1.out]; omega
    have hao : a < (reloc (mvAdd r false a) false (X.length + 1) O).length := by rw [hO1.out]; omega
    have m5 := (hm.2.2.2.2.1.cell a).trans (ints_get _ hax)
    have m6 := (hm.2.2.2.2.2.1.cell a).trans (ints_get _ hao)
    have m7 := hm.2.2.2.2.1.frozen a
    have m8 := hm.2.2.2.2.2.1.frozen a
    have n1 := hm.2.2.2.2.2.2.1
    have n2 := hm.2.2.2.2.2.2.2.2.2.2.1.symm
    have n3 := hm.2.2.2.2.2.2.2.2.2.2.2.symm
    have n8 := n1.symm
    have n4 : gx ≠ w.heap.size + 1 := by omega
    have n5 : gx ≠ w.heap.size + 2 := by omega
    have n6 : go ≠ w.heap.size + 1 := by omega
    have n7 : go ≠ w.heap.size + 2 := by omega
    go_cut [] (fun wx => StaMid w.heap.size wx g gx go ((reloc (mvAdd r false a) true (X.length + 1) X).set a (r : Int)) ((reloc (mvAdd r false a) false (X.length + 1) O).set a ((r : Int) + 1)) a r ∧ Below w.heap.size w wx)
    case first =>
      go_region_held3 (fun w' => w'.cell? ⟨g, 0, none⟩ = some (.slice (some ⟨gx, 0, none⟩) (reloc (mvAdd r false a) true (X.length + 1) X).length (reloc (mvAdd r false a) true (X.length + 1) X).length) ∧ w'.cell? ⟨g, 1, none⟩ = some (.slice (some ⟨go, 0, none⟩) (reloc (mvAdd r false a) false (X.length + 1) O).length (reloc (mvAdd r false a) false (X.length + 1) O).length) ∧ w'.cell? ⟨w.heap.size + 1, 0, none⟩ = some (.int .i64 (a : Int)) ∧ w'.cell? ⟨w.heap.size + 2, 0, none⟩ = some (.int .i64 (r : Int))) (go_keep) (first | fail)
      go_wp2_with fail
      go_meet
      rw [show IntKind.i64.wrap ((r : Int) + 1) = (r : Int) + 1 from IntWalk.i64_in _ (by omega)]
      exact ⟨((hm.setX a r).setO a ((r : Int) + 1)).drew, ((hb6.setCell (p := ⟨gx, a, none⟩) (by show w.heap.size ≤ gx; omega) _).setCell (p := ⟨go, a, none⟩) (by show w.heap.size ≤ go; omega) _).drew⟩
    case rest =>
      clear m1 m2 m3 m4 m5 m6 m7 m8 n4 n5 n6 n7 hm hb6
      obtain ⟨hm, hb6⟩ := hcut
      have m3 := hm.2.2.2.1.cell 0
      have m4 := hm.2.2.2.1.cell 1
      have hr := hm.2.2.1
      have s0 := hr.cell 0
      have s1 := hr.cell 1
      have s2 := hr.frozen 0
      have s3 := hr.frozen 1
      have hres := Lib.hid ((hr.set 0 (.slice (some ⟨gx, 0, none⟩) (reloc (mvAdd r false a) true (X.length + 1) X).length (reloc (mvAdd r false a) true (X.length + 1) X).length)).set 1 (.slice (some ⟨go, 0, none⟩) (reloc (mvAdd r false a) false (X.length + 1) O).length (reloc (mvAdd r false a) false (X.length + 1) O).length))
      go_wp2_with fail
      refine bodyPost_ret (v := .agg #[.slice (some ⟨gx, 0, none⟩) (reloc (mvAdd r false a) true (X.length + 1) X).length (reloc (mvAdd r false a) true (X.length + 1) X).length, .slice (some ⟨go, 0, none⟩) (reloc (mvAdd r false a) false (X.length + 1) O).length (reloc (mvAdd r false a) false (X.length + 1) O).length]) (results_c Tryz.results95 _ _ (w.heap.size + 4) 24 _ _ rfl hres.out Tryz.underlying24 rfl info_grid) rfl ⟨_, rfl, ?_, ?_⟩
      · exact ⟨gx, go, by simp only [staX, staO, List.length_set], hm.2.2.2.2.2.2.1, by omega, by omega, hm.2.2.2.2.1.far2 (r := w.heap.size + 4) (by omega), hm.2.2.2.2.2.1.far2 (r := w.heap.size + 4) (by omega)⟩
      · exact bset2 (r := w.heap.size + 4) hb6 (by omega)
end Go.Proofs.YteliflcbegcdlaaGreatDoor
