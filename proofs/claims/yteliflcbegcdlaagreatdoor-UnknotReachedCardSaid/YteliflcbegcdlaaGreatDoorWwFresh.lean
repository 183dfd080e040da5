/- gridmove.columns: a move of columns. -/
/- Plain facts: rows stay in range under the moves of columns. -/
/- gridmove.Apply, but for moves of rows. -/
/- gridmove.Apply for moves of rows. -/
/- Plain facts: lists that are permutations; where relocate lays what. -/
/- Plain facts: the four moves of columns as operations on lists. -/
/- gridmove.Apply: what it returns, for all arguments. -/
/- What all laws of this seat call: slices.Equal, same, great, awake. -/
/- Apply once more: its result lies in new memory. -/
import Derived.Test.YteliflcbegcdlaaGreatDoorProg
import Derived.Test.YteliflcbegcdlaaGreatDoorWwBase
import Derived.Test.YteliflcbegcdlaaGreatDoorWwBase2
import Derived.Test.YteliflcbegcdlaaGreatDoorWwGrf
import Derived.Test.YteliflcbegcdlaaGreatDoorWwPerm
import Derived.Test.YteliflcbegcdlaaGreatDoorWwTrans
import Derived.Test.YteliflcbegcdlaaGreatDoorWwSwp
import Derived.Test.YteliflcbegcdlaaGreatDoorWwDes
import Derived.Test.YteliflcbegcdlaaGreatDoorWwSta
import Derived.KernelRfl
import Derived.Outline
import Derived.Deep.RegionHeld3
import Derived.Deep.DeepCutAuto
namespace Go.Proofs.YteliflcbegcdlaaGreatDoor
open Go.RowKit
set_option linter.unusedVariables false
/-- what a move function returns: an error number, and a new grid if it is 0 -/
def GRes (B : Nat) (w : World) (r : Int × List Int × List Int) (e : Ending) (w' : World) : Prop :=
  Below B w w' ∧ ∃ v, e = .returned (.tuple #[v, .int .i64 r.1]) ∧ if r.1 = 0 then NewGrid B w' v r.2.1 r.2.2 else v = .agg #[.slice none 0 0, .slice none 0 0]
theorem GRes.ok {B : Nat} {w w' : World} {X O : List Int} {v : Value} (hb : Below B w w') (h : NewGrid B w' v X O) : GRes B w (0, X, O) (.returned (.tuple #[v, .int .i64 0])) w' :=
  ⟨hb, v, rfl, by rw [if_pos rfl]; exact h⟩
theorem GRes.err {B : Nat} {w w' : World} {code : Int} (hc : code ≠ 0) (hb : Below B w w') : GRes B w (code, [], []) (.returned (.tuple #[.agg #[.slice none 0 0, .slice none 0 0], .int .i64 code])) w' :=
  ⟨hb, _, rfl, by rw [if_neg hc]⟩
def rotM (X O : List Int) : Int × List Int × List Int := (0, reloc (mvRot X.length) true X.length X, reloc (mvRot X.length) false X.length O)
def swapM (X O : List Int) (a : Nat) : Int × List Int × List Int :=
  if commB (X.getD a 0) (O.getD a 0) (X.getD (a + 1) 0) (O.getD (a + 1) 0) then (0, reloc (mvSwap a) true X.length X, reloc (mvSwap a) false X.length O) else (6, [], [])
def desM (X O : List Int) (a : Nat) : Int × List Int × List Int :=
  if desOk X O a (X.getD a 0) (O.getD a 0) then (0, reloc (mvDel (minG (X.getD a 0) (O.getD a 0)) a) true (X.length - 1) X, reloc (mvDel (minG (X.getD a 0) (O.getD a 0)) a) false (X.length - 1) O) else (6, [], [])
def staM (X O : List Int) (a v : Nat) : Int × List Int × List Int :=
  if X.length = 40 then (5, [], []) else (0, staX X a (v / 2) (decide (v % 2 = 0)), staO X.length O a (v / 2) (decide (v % 2 = 0)))
def colsM (X O : List Int) (k : Int) (a v : Nat) : Int × List Int × List Int :=
  if k = 1 then rotM X O else if k = 2 then swapM X O a else if k = 3 then desM X O a else staM X O a v
theorem mvRot_lt (n : Nat) (c r : Int) (b : Bool) (h : 2 ≤ n) : (mvRot n c r b).1 < n := Int.emod_lt_of_pos _ (by omega)
theorem mvSwap_lt (a k n : Nat) (r : Int) (b : Bool) (h : k < n) (h' : a + 1 < n) : (mvSwap a k r b).1 < n := by
  simp only [mvSwap]
  repeat' split
  all_goals omega
set_option maxHeartbeats 1000000 in
theorem columns_rot (vx vo : Value) (X O : List Int) (rows : Bool) (a v : Nat) (w : World) (hX : Ints w vx X) (hO : Ints w vo O) (hl : X.length ≤ 40) (hl2 : 2 ≤ X.length) (hlen : X.length = O.length) (rX : Rows X.length X) (rO : Rows X.length O) :
    Calls Tryz.prog 74 #[.agg #[vx, vo], .agg #[.int .i64 1, .bool rows, .int .i64 (a : Int), .int .i64 (v : Int)]] w (GRes w.heap.size w (rotM X O)) := by
  have HL := Lib.hid hlen
  clear hlen
  have hX0 := hX
  have hO0 := hO
  obtain ⟨A, c, rfl, hc, hh⟩ := hX
  obtain ⟨A', c', rfl, hc', hh'⟩ := hO
  clear hh hh'
  go_enter Tryz.func74, Tryz.ntmps74
  go_wp2_with fail
  have hW : Arr ((((w.alloc (.cells #[.slice A X.length c, .slice A' O.length c'] 24)).alloc (.cells #[.int .i64 1, .bool rows, .int .i64 (a : Int), .int .i64 (v : Int)] 94)).alloc (.cells #[.slice none 0 0, .slice none 0 0] 24)).alloc (.cells #[.int .i64 (X.length : Int)] 3)) w.heap.size 24 [.slice A X.length c, .slice A' O.length c'] ∧ Arr ((((w.alloc (.cells #[.slice A X.length c, .slice A' O.length c'] 24)).alloc (.cells #[.int .i64 1, .bool rows, .int .i64 (a : Int), .int .i64 (v : Int)] 94)).alloc (.cells #[.slice none 0 0, .slice none 0 0] 24)).alloc (.cells #[.int .i64 (X.length : Int)] 3)) (w.heap.size + 1) 94 [.int .i64 1, .bool rows, .int .i64 (a : Int), .int .i64 (v : Int)] ∧ Arr ((((w.alloc (.cells #[.slice A X.length c, .slice A' O.length c'] 24)).alloc (.cells #[.int .i64 1, .bool rows, .int .i64 (a : Int), .int .i64 (v : Int)] 94)).alloc (.cells #[.slice none 0 0, .slice none 0 0] 24)).alloc (.cells #[.int .i64 (X.length : Int)] 3)) (w.heap.size + 2) 24 [.slice none 0 0, .slice none 0 0] ∧
      Arr ((((w.alloc (.cells #[.slice A X.length c, .slice A' O.length c'] 24)).alloc (.cells #[.int .i64 1, .bool rows, .int .i64 (a : Int), .int .i64 (v : Int)] 94)).alloc (.cells #[.slice none 0 0, .slice none 0 0] 24)).alloc (.cells #[.int .i64 (X.length : Int)] 3)) (w.heap.size + 3) 3 [.int .i64 (X.length : Int)] ∧ Below w.heap.size w ((((w.alloc (.cells #[.slice A X.length c, .slice A' O.length c'] 24)).alloc (.cells #[.int .i64 1, .bool rows, .int .i64 (a : Int), .int .i64 (v : Int)] 94)).alloc (.cells #[.slice none 0 0, .slice none 0 0] 24)).alloc (.cells #[.int .i64 (X.length : Int)] 3)) ∧ ((((w.alloc (.cells #[.slice A X.length c, .slice A' O.length c'] 24)).alloc (.cells #[.int .i64 1, .bool rows, .int .i64 (a : Int), .int .i64 (v : Int)] 94)).alloc (.cells #[.slice none 0 0, .slice none 0 0] 24)).alloc (.cells #[.int .i64 (X.length : Int)] 3)).heap.size = w.heap.size + 4 :=
    ⟨(((Arr.new _ _ [_, _]).alloc _).alloc _).alloc _, ((Arr.newAt (w.alloc _) _ [_, _, _, _] _ (by simp)).alloc _).alloc _, (Arr.newAt ((w.alloc _).alloc _) _ [_, _] _ (by simp)).alloc _, Arr.newAt (((w.alloc _).alloc _).alloc _) _ [_] _ (by simp),
      ((((Below.refl _ _).alloc (Nat.le_refl _) _).alloc (by simp) _).alloc (by simp <;> omega) _).alloc (by simp <;> omega) _, by simp⟩
  generalize ((((w.alloc (.cells #[.slice A X.length c, .slice A' O.length c'] 24)).alloc (.cells #[.int .i64 1, .bool rows, .int .i64 (a : Int), .int .i64 (v : Int)] 94)).alloc (.cells #[.slice none 0 0, .slice none 0 0] 24)).alloc (.cells #[.int .i64 (X.length : Int)] 3)) = w4 at hW ⊢
  obtain ⟨q0, q1, q2, q3, hb4, hs4⟩ := hW
  refine (relocate_any _ _ X O X.length 91 #[.pointer (some ⟨w.heap.size + 3, 0, none⟩)] (mvRot X.length) _ Tryz.call91 (by omega) (hX0.below hb4) (hO0.below hb4) HL.out (by omega)
    (fun W hW k h => columns1_any k X[k] X.length true (w.heap.size + 3) W (by omega) (by omega) (by omega) (by omega) ((q3.below hW q3.lt).cell 0))
    (fun W hW k h => columns1_any k O[k] X.length false (w.heap.size + 3) W (by omega) (by have := HL.out; omega) (by omega) (by omega) ((q3.below hW q3.lt).cell 0))
    (fun k h => mvRot_lt _ _ _ _ hl2) (fun k h => mvRot_lt _ _ _ _ hl2)).mono ?_
  rintro e w1 ⟨v1, rfl, ⟨gx, go, rfl, e1, e2, e3, a1, a2⟩, hb⟩
  have hr := q2.below hb q2.lt
  have hbw := hb4.trans (hb.mono hb4.size)
  have hlt5 := q2.lt
  have s0 := hr.cell 0
  have s1 := hr.cell 1
  have s2 := hr.frozen 0
  have s3 := hr.frozen 1
  have hres := Lib.hid ((hr.set 0 (.slice (some ⟨gx, 0, none⟩) (reloc (mvRot X.length) true X.length X).length (reloc (mvRot X.length) true X.length X).length)).set 1 (.slice (some ⟨go, 0, none⟩) (reloc (mvRot X.length) false X.length O).length (reloc (mvRot X.length) false X.length O).length))
  go_wp2_with fail
  refine bodyPost_ret (v := .tuple #[.agg #[.slice (some ⟨gx, 0, none⟩) (reloc (mvRot X.length) true X.length X).length (reloc (mvRot X.length) true X.length X).length, .slice (some ⟨go, 0, none⟩) (reloc (mvRot X.length) false X.length O).length (reloc (mvRot X.length) false X.length O).length], .int .i64 0]) (results_ct Tryz.results74 _ _ (w.heap.size + 2) 24 _ _ rfl hres.out Tryz.underlying24 rfl info_grid) rfl ?_
  unfold rotM
  exact GRes.ok (bset2 (r := w.heap.size + 2) hbw (by omega)) ⟨gx, go, rfl, e1, by omega, by omega, a1.far2 (r := w.heap.size + 2) (by omega), a2.far2 (r := w.heap.size + 2) (by omega)⟩
set_option maxHeartbeats 1000000 in
theorem columns_swap (vx vo : Value) (X O : List Int) (rows : Bool) (a v : Nat) (w : World) (hX : Ints w vx X) (hO : Ints w vo O) (hl : X.length ≤ 40) (hl2 : 2 ≤ X.length) (hlen : X.length = O.length) (rX : Rows X.length X) (rO : Rows X.length O) (ha : a + 1 < X.length) :
    Calls Tryz.prog 74 #[.agg #[vx, vo], .agg #[.int .i64 2, .bool rows, .int .i64 (a : Int), .int .i64 (v : Int)]] w (GRes w.heap.size w (swapM X O a)) := by
  have hao : a + 1 < O.length := by omega
  have ha0 : a < X.length := by omega
  have ho0 : a < O.length := by omega
  have HL := Lib.hid hlen
  clear hlen
  have hX0 := hX
  have hO0 := hO
  obtain ⟨A, c, rfl, hc, hh⟩ := hX
  obtain ⟨A', c', rfl, hc', hh'⟩ := hO
  clear hh hh'
  go_enter Tryz.func74, Tryz.ntmps74
  go_wp2_with fail
  have hW : Arr ((((w.alloc (.cells #[.slice A X.length c, .slice A' O.length c'] 24)).alloc (.cells #[.int .i64 2, .bool rows, .int .i64 (a : Int), .int .i64 (v : Int)] 94)).alloc (.cells #[.slice none 0 0, .slice none 0 0] 24)).alloc (.cells #[.int .i64 (X.length : Int)] 3)) w.heap.size 24 [.slice A X.length c, .slice A' O.length c'] ∧ Arr ((((w.alloc (.cells #[.slice A X.length c, .slice A' O.length c'] 24)).alloc (.cells #[.int .i64 2, .bool rows, .int .i64 (a : Int), .int .i64 (v : Int)] 94)).alloc (.cells #[.slice none 0 0, .slice none 0 0] 24)).alloc (.cells #[.int .i64 (X.length : Int)] 3)) (w.heap.size + 1) 94 [.int .i64 2, .bool rows, .int .i64 (a : Int), .int .i64 (v : Int)] ∧ Arr ((((w.alloc (.cells #[.slice A X.length c, .slice A' O.length c'] 24)).alloc (.cells #[.int .i64 2, .bool rows, .int .i64 (a : Int), .int .i64 (v : Int)] 94)).alloc (.cells #[.slice none 0 0, .slice none 0 0] 24)).alloc (.cells #[.int .i64 (X.length : Int)] 3)) (w.heap.size + 2) 24 [.slice none 0 0, .slice none 0 0] ∧
      Arr ((((w.alloc (.cells #[.slice A X.length c, .slice A' O.length c'] 24)).alloc (.cells #[.int .i64 2, .bool rows, .int .i64 (a : Int), .int .i64 (v : Int)] 94)).alloc (.cells #[.slice none 0 0, .slice none 0 0] 24)).alloc (.cells #[.int .i64 (X.length : Int)] 3)) (w.heap.size + 3) 3 [.int .i64 (X.length : Int)] ∧ Below w.heap.size w ((((w.alloc (.cells #[.slice A X.length c, .slice A' O.length c'] 24)).alloc (.cells #[.int .i64 2, .bool rows, .int .i64 (a : Int), .int .i64 (v : Int)] 94)).alloc (.cells #[.slice none 0 0, .slice none 0 0] 24)).alloc (.cells #[.int .i64 (X.length : Int)] 3)) ∧ ((((w.alloc (.cells #[.slice A X.length c, .slice A' O.length c'] 24)).alloc (.cells #[.int .i64 2, .bool rows, .int .i64 (a : Int), .int .i64 (v : Int)] 94)).alloc (.cells #[.slice none 0 0, .slice none 0 0] 24)).alloc (.cells #[.int .i64 (X.length : Int)] 3)).heap.size = w.heap.size + 4 :=
    ⟨(((Arr.new _ _ [_, _]).alloc _).alloc _).alloc _, ((Arr.newAt (w.alloc _) _ [_, _, _, _] _ (by simp)).alloc _).alloc _, (Arr.newAt ((w.alloc _).alloc _) _ [_, _] _ (by simp)).alloc _, Arr.newAt (((w.alloc _).alloc _).alloc _) _ [_] _ (by simp),
      ((((Below.refl _ _).alloc (Nat.le_refl _) _).alloc (by simp) _).alloc (by simp <;> omega) _).alloc (by simp <;> omega) _, by simp⟩
  generalize ((((w.alloc (.cells #[.slice A X.length c, .slice A' O.length c'] 24)).alloc (.cells #[.int .i64 2, .bool rows, .int .i64 (a : Int), .int .i64 (v : Int)] 94)).alloc (.cells #[.slice none 0 0, .slice none 0 0] 24)).alloc (.cells #[.int .i64 (X.length : Int)] 3)) = w4 at hW ⊢
  obtain ⟨q0, q1, q2, q3, hb4, hs4⟩ := hW
  refine (commutes_any _ _ X O a _ (hX0.below hb4) (hO0.below hb4) (by omega) ha hao).mono ?_
  rintro e w5 ⟨rfl, hb5⟩
  have hg : Hid (commB X[a] O[a] X[a+1] O[a+1] = commB (X.getD a 0) (O.getD a 0) (X.getD (a + 1) 0) (O.getD (a + 1) 0)) := by
    show _ = _
    simp [List.getD_eq_getElem?_getD, ha, hao, ha0, ho0]
  have hbw5 := hb4.trans (hb5.mono hb4.size)
  have p0 := q0.below hb5 q0.lt
  have p1 := q1.below hb5 q1.lt
  have p2 := q2.below hb5 q2.lt
  have p3 := q3.below hb5 q3.lt
  have hsz5 := hb5.size
  generalize commB X[a] O[a] X[a+1] O[a+1] = R at *
  have y0 := p0.cell 0
  have y1 := p0.cell 1
  have y2 := p2.cell 0
  have y3 := p2.cell 1
  have y4 := p2.frozen 0
  have y5 := p2.frozen 1
  have y6 := p3.cell 0
  cases R with
  | false =>
    have hzr := Lib.hid ((p2.set 0 (.slice none 0 0)).set 1 (.slice none 0 0))
    have hfin := Lib.hid (show swapM X O a = (6, [], []) by simp only [swapM]; rw [← hg.out]; rfl)
    go_wp2_with fail
    refine bodyPost_ret (v := .tuple #[.agg #[.slice none 0 0, .slice none 0 0], .int .i64 6]) (results_ct Tryz.results74 _ _ (w.heap.size + 2) 24 _ _ rfl hzr.out Tryz.underlying24 rfl info_grid) rfl ?_
    rw [hfin.out]
    exact GRes.err (by decide) (bset2 (r := w.heap.size + 2) hbw5 (by omega))
  | true =>
    have hfin := Lib.hid (show swapM X O a = (0, (reloc (mvSwap a) true X.length X), (reloc (mvSwap a) false X.length O)) by simp only [swapM]; rw [← hg.out]; rfl)
    go_wp2_with fail
    refine (relocate_any _ _ X O X.length 93 #[.pointer (some ⟨w.heap.size + 1, 0, none⟩)] (mvSwap a) _ Tryz.call93 (by omega) (hX0.below hbw5) (hO0.below hbw5) HL.out (by omega)
      (fun W hW k h => columns2_any k X[k] a true (w.heap.size + 1) W (by omega) (by omega) (by omega) (by omega) ((p1.below hW p1.lt).cell 2))
      (fun W hW k h => columns2_any k O[k] a false (w.heap.size + 1) W (by omega) (by have := HL.out; omega) (by omega) (by omega) ((p1.below hW p1.lt).cell 2))
      (fun k h => mvSwap_lt _ _ _ _ _ h ha) (fun k h => mvSwap_lt _ _ _ _ _ (by have := HL.out; omega) ha)).mono ?_
    clear y0 y1 y2 y3 y4 y5 y6
    rintro e w1 ⟨v1, rfl, ⟨gx, go, rfl, e1, e2, e3, a1, a2⟩, hb⟩
    have hr := p2.below hb p2.lt
    have hbw := hbw5.trans (hb.mono hbw5.size)
    have hlt5 := p2.lt
    have s0 := hr.cell 0
    have s1 := hr.cell 1
    have s2 := hr.frozen 0
    have s3 := hr.frozen 1
    have hres := Lib.hid ((hr.set 0 (.slice (some ⟨gx, 0, none⟩) (reloc (mvSwap a) true X.length X).length (reloc (mvSwap a) true X.length X).length)).set 1 (.slice (some ⟨go, 0, none⟩) (reloc (mvSwap a) false X.length O).length (reloc (mvSwap a) false X.length O).length))
    go_wp2_with fail
    refine bodyPost_ret (v := .tuple #[.agg #[.slice (some ⟨gx, 0, none⟩) (reloc (mvSwap a) true X.length X).length (reloc (mvSwap a) true X.length X).length, .slice (some ⟨go, 0, none⟩) (reloc (mvSwap a) false X.length O).length (reloc (mvSwap a) false X.length O).length], .int .i64 0]) (results_ct Tryz.results74 _ _ (w.heap.size + 2) 24 _ _ rfl hres.out Tryz.underlying24 rfl info_grid) rfl ?_
    rw [hfin.out]
    exact GRes.ok (bset2 (r := w.heap.size + 2) hbw (by omega)) ⟨gx, go, rfl, e1, by omega, by omega, a1.far2 (r := w.heap.size + 2) (by omega), a2.far2 (r := w.heap.size + 2) (by omega)⟩
set_option maxHeartbeats 1000000 in
theorem columns_des (vx vo : Value) (X O : List Int) (rows : Bool) (a v : Nat) (w : World) (hX : Ints w vx X) (hO : Ints w vo O) (hl : X.length ≤ 40) (hl2 : 2 ≤ X.length) (hlen : X.length = O.length) (rX : Rows X.length X) (rO : Rows X.length O) (ha : a < X.length) :
    Calls Tryz.prog 74 #[.agg #[vx, vo], .agg #[.int .i64 3, .bool rows, .int .i64 (a : Int), .int .i64 (v : Int)]] w (GRes w.heap.size w (desM X O a)) := by
  have ho0 : a < O.length := by omega
  have HL := Lib.hid hlen
  clear hlen
  have hX0 := hX
  have hO0 := hO
  obtain ⟨A, c, rfl, hc, hh⟩ := hX
  obtain ⟨A', c', rfl, hc', hh'⟩ := hO
  clear hh hh'
  go_enter Tryz.func74, Tryz.ntmps74
  go_wp2_with fail
  have hW : Arr ((((w.alloc (.cells #[.slice A X.length c, .slice A' O.length c'] 24)).alloc (.cells #[.int .i64 3, .bool rows, .int .i64 (a : Int), .int .i64 (v : Int)] 94)).alloc (.cells #[.slice none 0 0, .slice none 0 0] 24)).alloc (.cells #[.int .i64 (X.length : Int)] 3)) w.heap.size 24 [.slice A X.length c, .slice A' O.length c'] ∧ Arr ((((w.alloc (.cells #[.slice A X.length c, .slice A' O.length c'] 24)).alloc (.cells #[.int .i64 3, .bool rows, .int .i64 (a : Int), .int .i64 (v : Int)] 94)).alloc (.cells #[.slice none 0 0, .slice none 0 0] 24)).alloc (.cells #[.int .i64 (X.length : Int)] 3)) (w.heap.size + 1) 94 [.int .i64 3, .bool rows, .int .i64 (a : Int), .int .i64 (v : Int)] ∧ Arr ((((w.alloc (.cells #[.slice A X.length c, .slice A' O.length c'] 24)).alloc (.cells #[.int .i64 3, .bool rows, .int .i64 (a : Int), .int .i64 (v : Int)] 94)).alloc (.cells #[.slice none 0 0, .slice none 0 0] 24)).alloc (.cells #[.int .i64 (X.length : Int)] 3)) (w.heap.size + 2) 24 [.slice none 0 0, .slice none 0 0] ∧
      Arr ((((w.alloc (.cells #[.slice A X.length c, .slice A' O.length c'] 24)).alloc (.cells #[.int .i64 3, .bool rows, .int .i64 (a : Int), .int .i64 (v : Int)] 94)).alloc (.cells #[.slice none 0 0, .slice none 0 0] 24)).alloc (.cells #[.int .i64 (X.length : Int)] 3)) (w.heap.size + 3) 3 [.int .i64 (X.length : Int)] ∧ Below w.heap.size w ((((w.alloc (.cells #[.slice A X.length c, .slice A' O.length c'] 24)).alloc (.cells #[.int .i64 3, .bool rows, .int .i64 (a : Int), .int .i64 (v : Int)] 94)).alloc (.cells #[.slice none 0 0, .slice none 0 0] 24)).alloc (.cells #[.int .i64 (X.length : Int)] 3)) ∧ ((((w.alloc (.cells #[.slice A X.length c, .slice A' O.length c'] 24)).alloc (.cells #[.int .i64 3, .bool rows, .int .i64 (a : Int), .int .i64 (v : Int)] 94)).alloc (.cells #[.slice none 0 0, .slice none 0 0] 24)).alloc (.cells #[.int .i64 (X.length : Int)] 3)).heap.size = w.heap.size + 4 :=
    ⟨(((Arr.new _ _ [_, _]).alloc _).alloc _).alloc _, ((Arr.newAt (w.alloc _) _ [_, _, _, _] _ (by simp)).alloc _).alloc _, (Arr.newAt ((w.alloc _).alloc _) _ [_, _] _ (by simp)).alloc _, Arr.newAt (((w.alloc _).alloc _).alloc _) _ [_] _ (by simp),
      ((((Below.refl _ _).alloc (Nat.le_refl _) _).alloc (by simp) _).alloc (by simp <;> omega) _).alloc (by simp <;> omega) _, by simp⟩
  generalize ((((w.alloc (.cells #[.slice A X.length c, .slice A' O.length c'] 24)).alloc (.cells #[.int .i64 3, .bool rows, .int .i64 (a : Int), .int .i64 (v : Int)] 94)).alloc (.cells #[.slice none 0 0, .slice none 0 0] 24)).alloc (.cells #[.int .i64 (X.length : Int)] 3)) = w4 at hW ⊢
  obtain ⟨q0, q1, q2, q3, hb4, hs4⟩ := hW
  refine (destabilize_any _ _ X O a _ (hX0.below hb4) (hO0.below hb4) (by omega) HL.out ha ho0 rX rO).mono ?_
  rintro e w1 ⟨hb, hres⟩
  have hgx : X.getD a 0 = X[a] := by simp [List.getD_eq_getElem?_getD, ha]
  have hgo : O.getD a 0 = O[a] := by simp [List.getD_eq_getElem?_getD, ho0]
  have hr := q2.below hb q2.lt
  have hbw := hb4.trans (hb.mono hb4.size)
  have hlt5 := q2.lt
  have s0 := hr.cell 0
  have s1 := hr.cell 1
  have s2 := hr.frozen 0
  have s3 := hr.frozen 1
  by_cases hd : desOk X O a X[a] O[a] = true
  · rw [if_pos hd] at hres
    have hfin := Lib.hid (show desM X O a = (0, (reloc (mvDel (minG X[a] O[a]) a) true (X.length - 1) X), (reloc (mvDel (minG X[a] O[a]) a) false (X.length - 1) O)) by simp only [desM, hgx, hgo]; rw [if_pos hd])
    clear hgx hgo hd
    obtain ⟨v1, rfl, gx, go, rfl, e1, e2, e3, a1, a2⟩ := hres
    have hres := Lib.hid ((hr.set 0 (.slice (some ⟨gx, 0, none⟩) (reloc (mvDel (minG X[a] O[a]) a) true (X.length - 1) X).length (reloc (mvDel (minG X[a] O[a]) a) true (X.length - 1) X).length)).set 1 (.slice (some ⟨go, 0, none⟩) (reloc (mvDel (minG X[a] O[a]) a) false (X.length - 1) O).length (reloc (mvDel (minG X[a] O[a]) a) false (X.length - 1) O).length))
    go_wp2_with fail
    refine bodyPost_ret (v := .tuple #[.agg #[.slice (some ⟨gx, 0, none⟩) (reloc (mvDel (minG X[a] O[a]) a) true (X.length - 1) X).length (reloc (mvDel (minG X[a] O[a]) a) true (X.length - 1) X).length, .slice (some ⟨go, 0, none⟩) (reloc (mvDel (minG X[a] O[a]) a) false (X.length - 1) O).length (reloc (mvDel (minG X[a] O[a]) a) false (X.length - 1) O).length], .int .i64 0]) (results_ct Tryz.results74 _ _ (w.heap.size + 2) 24 _ _ rfl hres.out Tryz.underlying24 rfl info_grid) rfl ?_
    rw [hfin.out]
    exact GRes.ok (bset2 (r := w.heap.size + 2) hbw (by omega)) ⟨gx, go, rfl, e1, by omega, by omega, a1.far2 (r := w.heap.size + 2) (by omega), a2.far2 (r := w.heap.size + 2) (by omega)⟩
  · rw [if_neg hd] at hres
    have hfin := Lib.hid (show desM X O a = (6, [], []) by simp only [desM, hgx, hgo]; rw [if_neg hd])
    clear hgx hgo hd
    subst hres
    have hzr := Lib.hid ((hr.set 0 (.slice none 0 0)).set 1 (.slice none 0 0))
    go_wp2_with fail
    refine bodyPost_ret (v := .tuple #[.agg #[.slice none 0 0, .slice none 0 0], .int .i64 6]) (results_ct Tryz.results74 _ _ (w.heap.size + 2) 24 _ _ rfl hzr.out Tryz.underlying24 rfl info_grid) rfl ?_
    rw [hfin.out]
    exact GRes.err (by decide) (bset2 (r := w.heap.size + 2) hbw (by omega))
set_option maxHeartbeats 1000000 in
theorem columns_sta (vx vo : Value) (X O : List Int) (rows : Bool) (a v : Nat) (w : World) (hX : Ints w vx X) (hO : Ints w vo O) (hl : X.length ≤ 40) (hl2 : 2 ≤ X.length) (hlen : X.length = O.length) (rX : Rows X.length X) (rO : Rows X.length O) (ha : a ≤ X.length) (hv : v < 2 * X.length) :
    Calls Tryz.prog 74 #[.agg #[vx, vo], .agg #[.int .i64 4, .bool rows, .int .i64 (a : Int), .int .i64 (v : Int)]] w (GRes w.heap.size w (staM X O a v)) := by
  by_cases h40 : X.length = 40
  · have hd40 : ((X.length : Int) == 40) = true := by simp [h40]
    have hfin := Lib.hid (show staM X O a v = (5, [], []) by simp only [staM]; rw [if_pos h40])
    clear h40
    have HL := Lib.hid hlen
    clear hlen
    have hX0 := hX
    have hO0 := hO
    obtain ⟨A, c, rfl, hc, hh⟩ := hX
    obtain ⟨A', c', rfl, hc', hh'⟩ := hO
    clear hh hh'
    go_enter Tryz.func74, Tryz.ntmps74
    go_wp2_with fail
    refine bodyPost_ret (v := .tuple #[.agg #[.slice none 0 0, .slice none 0 0], .int .i64 5]) (by simp [results, Tryz.results74, go_sem]) rfl ?_
    rw [hfin.out]
    exact GRes.err (by decide) (by repeat (first | exact Below.refl _ _ | refine Below.alloc ?_ (by simp <;> omega) _))
  · have hd40 : ((X.length : Int) == 40) = false := by simp; omega
    have hfin := Lib.hid (show staM X O a v = (0, staX X a (v / 2) (decide (v % 2 = 0)), staO X.length O a (v / 2) (decide (v % 2 = 0))) by simp only [staM]; rw [if_neg h40])
    clear h40
    have HL := Lib.hid hlen
    clear hlen
    have hX0 := hX
    have hO0 := hO
    obtain ⟨A, c, rfl, hc, hh⟩ := hX
    obtain ⟨A', c', rfl, hc', hh'⟩ := hO
    clear hh hh'
    go_enter Tryz.func74, Tryz.ntmps74
    go_wp2_with fail
    have hW : Arr ((((w.alloc (.cells #[.slice A X.length c, .slice A' O.length c'] 24)).alloc (.cells #[.int .i64 4, .bool rows, .int .i64 (a : Int), .int .i64 (v : Int)] 94)).alloc (.cells #[.slice none 0 0, .slice none 0 0] 24)).alloc (.cells #[.int .i64 (X.length : Int)] 3)) w.heap.size 24 [.slice A X.length c, .slice A' O.length c'] ∧ Arr ((((w.alloc (.cells #[.slice A X.length c, .slice A' O.length c'] 24)).alloc (.cells #[.int .i64 4, .bool rows, .int .i64 (a : Int), .int .i64 (v : Int)] 94)).alloc (.cells #[.slice none 0 0, .slice none 0 0] 24)).alloc (.cells #[.int .i64 (X.length : Int)] 3)) (w.heap.size + 1) 94 [.int .i64 4, .bool rows, .int .i64 (a : Int), .int .i64 (v : Int)] ∧ Arr ((((w.alloc (.cells #[.slice A X.length c, .slice A' O.length c'] 24)).alloc (.cells #[.int .i64 4, .bool rows, .int .i64 (a : Int), .int .i64 (v : Int)] 94)).alloc (.cells #[.slice none 0 0, .slice none 0 0] 24)).alloc (.cells #[.int .i64 (X.length : Int)] 3)) (w.heap.size + 2) 24 [.slice none 0 0, .slice none 0 0] ∧
        Arr ((((w.alloc (.cells #[.slice A X.length c, .slice A' O.length c'] 24)).alloc (.cells #[.int .i64 4, .bool rows, .int .i64 (a : Int), .int .i64 (v : Int)] 94)).alloc (.cells #[.slice none 0 0, .slice none 0 0] 24)).alloc (.cells #[.int .i64 (X.length : Int)] 3)) (w.heap.size + 3) 3 [.int .i64 (X.length : Int)] ∧ Below w.heap.size w ((((w.alloc (.cells #[.slice A X.length c, .slice A' O.length c'] 24)).alloc (.cells #[.int .i64 4, .bool rows, .int .i64 (a : Int), .int .i64 (v : Int)] 94)).alloc (.cells #[.slice none 0 0, .slice none 0 0] 24)).alloc (.cells #[.int .i64 (X.length : Int)] 3)) ∧ ((((w.alloc (.cells #[.slice A X.length c, .slice A' O.length c'] 24)).alloc (.cells #[.int .i64 4, .bool rows, .int .i64 (a : Int), .int .i64 (v : Int)] 94)).alloc (.cells #[.slice none 0 0, .slice none 0 0] 24)).alloc (.cells #[.int .i64 (X.length : Int)] 3)).heap.size = w.heap.size + 4 :=
      ⟨(((Arr.new _ _ [_, _]).alloc _).alloc _).alloc _, ((Arr.newAt (w.alloc _) _ [_, _, _, _] _ (by simp)).alloc _).alloc _, (Arr.newAt ((w.alloc _).alloc _) _ [_, _] _ (by simp)).alloc _, Arr.newAt (((w.alloc _).alloc _).alloc _) _ [_] _ (by simp),
        ((((Below.refl _ _).alloc (Nat.le_refl _) _).alloc (by simp) _).alloc (by simp <;> omega) _).alloc (by simp <;> omega) _, by simp⟩
    generalize ((((w.alloc (.cells #[.slice A X.length c, .slice A' O.length c'] 24)).alloc (.cells #[.int .i64 4, .bool rows, .int .i64 (a : Int), .int .i64 (v : Int)] 94)).alloc (.cells #[.slice none 0 0, .slice none 0 0] 24)).alloc (.cells #[.int .i64 (X.length : Int)] 3)) = w4 at hW ⊢
    obtain ⟨q0, q1, q2, q3, hb4, hs4⟩ := hW
    have ev : ((v : Int) / 2) = ((v / 2 : Nat) : Int) := by omega
    have eb : ((v : Int) % 2 == 0) = decide (v % 2 = 0) := by rw [Bool.eq_iff_iff]; simp; omega
    rw [ev, eb]
    clear ev eb
    refine (stabilize_any _ _ X O a (v / 2) (decide (v % 2 = 0)) _ (hX0.below hb4) (hO0.below hb4) (by omega) HL.out ha (by omega) rX rO).mono ?_
    generalize decide (v % 2 = 0) = st at *
    generalize v / 2 = rr at *
    rintro e w1 ⟨v1, rfl, ⟨gx, go, rfl, e1, e2, e3, a1, a2⟩, hb⟩
    have hr := q2.below hb q2.lt
    have hbw := hb4.trans (hb.mono hb4.size)
    have hlt5 := q2.lt
    have s0 := hr.cell 0
    have s1 := hr.cell 1
    have s2 := hr.frozen 0
    have s3 := hr.frozen 1
    have hres := Lib.hid ((hr.set 0 (.slice (some ⟨gx, 0, none⟩) (staX X a rr st).length (staX X a rr st).length)).set 1 (.slice (some ⟨go, 0, none⟩) (staO X.length O a rr st).length (staO X.length O a rr st).length))
    go_wp2_with fail
    refine bodyPost_ret (v := .tuple #[.agg #[.slice (some ⟨gx, 0, none⟩) (staX X a rr st).length (staX X a rr st).length, .slice (some ⟨go, 0, none⟩) (staO X.length O a rr st).length (staO X.length O a rr st).length], .int .i64 0]) (results_ct Tryz.results74 _ _ (w.heap.size + 2) 24 _ _ rfl hres.out Tryz.underlying24 rfl info_grid) rfl ?_
    rw [hfin.out]
    exact GRes.ok (bset2 (r := w.heap.size + 2) hbw (by omega)) ⟨gx, go, rfl, e1, by omega, by omega, a1.far2 (r := w.heap.size + 2) (by omega), a2.far2 (r := w.heap.size + 2) (by omega)⟩
theorem columns_any (vx vo : Value) (X O : List Int) (rows : Bool) (a v : Nat) (w : World) (hX : Ints w vx X) (hO : Ints w vo O) (hl : X.length ≤ 40) (hl2 : 2 ≤ X.length) (hlen : X.length = O.length) (rX : Rows X.length X) (rO : Rows X.length O) (k : Int) (hk : 1 ≤ k ∧ k ≤ 4) (ha : a < limAt k X.length) (hv : v < limVar k X.length) :
    Calls Tryz.prog 74 #[.agg #[vx, vo], .agg #[.int .i64 k, .bool rows, .int .i64 (a : Int), .int .i64 (v : Int)]] w (GRes w.heap.size w (colsM X O k a v)) := by
  obtain ⟨h1, h4⟩ := hk
  by_cases k1 : k = 1
  · subst k1
    exact columns_rot vx vo X O rows a v w hX hO hl hl2 hlen rX rO
  by_cases k2 : k = 2
  · subst k2
    have : limAt 2 X.length = X.length - 1 := rfl
    exact columns_swap vx vo X O rows a v w hX hO hl hl2 hlen rX rO (by omega)
  by_cases k3 : k = 3
  · subst k3
    have : limAt 3 X.length = X.length := rfl
    exact columns_des vx vo X O rows a v w hX hO hl hl2 hlen rX rO (by omega)
  obtain rfl : k = 4 := by omega
  have e1 : limAt 4 X.length = X.length + 1 := rfl
  have e2 : limVar 4 X.length = 2 * X.length := rfl
  exact columns_sta vx vo X O rows a v w hX hO hl hl2 hlen rX rO (by omega) (by omega)
end Go.Proofs.YteliflcbegcdlaaGreatDoor

namespace Go.Proofs.YteliflcbegcdlaaGreatDoor
set_option linter.unusedVariables false
open Go.RowKit
theorem relStep_rows {n : Nat} {mv : Int → Int → Bool → Int × Int} {b : Bool} {i : Nat} {x : Int} {acc : List Int} (h : Rows n acc) (hx : 0 ≤ (mv i x b).2 ∧ (mv i x b).2 < n) : Rows n (relStep mv b i x acc) := by
  unfold relStep
  split
  · intro y hy
    rcases List.mem_or_eq_of_mem_set hy with h1 | h1
    · exact h y h1
    · rw [h1]; exact hx
  · exact h
theorem relTo_rows {n : Nat} {mv : Int → Int → Bool → Int × Int} {b : Bool} (xs : List Int) : ∀ (i : Nat) (acc : List Int), Rows n acc → (∀ k (h : k < xs.length), 0 ≤ (mv (i + k : Nat) xs[k] b).2 ∧ (mv (i + k : Nat) xs[k] b).2 < n) → Rows n (relTo mv b i xs acc) := by
  induction xs with
  | nil => intro i acc h _; exact h
  | cons x xs ih =>
    intro i acc h hx
    rw [relTo]
    refine ih (i + 1) _ (relStep_rows h (by have := hx 0 (by simp); simpa using this)) (fun k hk => ?_)
    have := hx (k + 1) (by simpa using hk)
    rw [show i + 1 + k = i + (k + 1) from by omega]
    simpa using this
theorem reloc_rows {m n : Nat} {mv : Int → Int → Bool → Int × Int} {b : Bool} {xs : List Int} (hm : 0 < m) (hx : ∀ k (h : k < xs.length), 0 ≤ (mv k xs[k] b).2 ∧ (mv k xs[k] b).2 < m) : Rows m (reloc mv b n xs) := by
  refine relTo_rows xs 0 _ (fun y hy => ?_) (fun k hk => by have := hx k hk; simpa using this)
  have := List.eq_of_mem_replicate hy
  omega
theorem reloc_length (mv : Int → Int → Bool → Int × Int) (b : Bool) (n : Nat) (xs : List Int) : (reloc mv b n xs).length = n := by simp [reloc, relTo_length]
theorem Rows.set {n : Nat} {l : List Int} (h : Rows n l) (i : Nat) {x : Int} (hx : 0 ≤ x ∧ x < n) : Rows n (l.set i x) := by
  intro y hy
  rcases List.mem_or_eq_of_mem_set hy with h1 | h1
  · exact h y h1
  · rw [h1]; exact hx
theorem getD_rows {n : Nat} {l : List Int} (h : Rows n l) {a : Nat} (ha : a < l.length) : 0 ≤ l.getD a 0 ∧ l.getD a 0 < n := by
  have : l.getD a 0 = l[a] := by simp [List.getD_eq_getElem?_getD, ha]
  rw [this]; exact h.get ha
/-- a move of columns that goes through gives lists of one length, with their rows in range -/
theorem colsM_rows {X O : List Int} {k : Int} {a v : Nat} (hk : 1 ≤ k ∧ k ≤ 4) (ha : a < limAt k X.length) (hv : v < limVar k X.length) (hl : 2 ≤ X.length) (hlen : X.length = O.length) (rX : Rows X.length X) (rO : Rows X.length O)
    (h0 : (colsM X O k a v).1 = 0) : ∃ m, (colsM X O k a v).2.1.length = m ∧ (colsM X O k a v).2.2.length = m ∧ 1 ≤ m ∧ m ≤ X.length + 1 ∧ Rows m (colsM X O k a v).2.1 ∧ Rows m (colsM X O k a v).2.2 := by
  obtain ⟨h1, h4⟩ := hk
  unfold colsM at h0 ⊢
  by_cases k1 : k = 1
  · simp only [if_pos k1]
    refine ⟨X.length, reloc_length _ _ _ _, reloc_length _ _ _ _, by omega, by omega, reloc_rows (by omega) (fun k hk => rX.get hk), reloc_rows (by omega) (fun k hk => rO.get hk)⟩
  simp only [if_neg k1] at h0 ⊢
  by_cases k2 : k = 2
  · simp only [if_pos k2] at h0 ⊢
    unfold swapM at h0 ⊢
    split at h0
    · rename_i hc
      simp only [if_pos hc]
      exact ⟨X.length, reloc_length _ _ _ _, reloc_length _ _ _ _, by omega, by omega, reloc_rows (by omega) (fun k hk => rX.get hk), reloc_rows (by omega) (fun k hk => rO.get hk)⟩
    · simp at h0
  simp only [if_neg k2] at h0 ⊢
  by_cases k3 : k = 3
  · simp only [if_pos k3] at h0 ⊢
    have ha' : a < X.length := by rw [k3] at ha; simp only [limAt] at ha; simpa using ha
    unfold desM at h0 ⊢
    split at h0
    · rename_i hc
      simp only [if_pos hc]
      have gx := getD_rows rX ha'
      have go := getD_rows rO (by omega : a < O.length)
      generalize X.getD a 0 = x at *
      generalize O.getD a 0 = o at *
      have hd : 3 ≤ X.length ∧ maxG x o = minG x o + 1 := by
        simp only [desOk, Bool.and_eq_true, decide_eq_true_eq] at hc
        exact ⟨hc.1.1, hc.1.2⟩
      have hlow : minG x o + 1 < X.length := by rw [← hd.2]; unfold maxG; split <;> omega
      have hlow0 : 0 ≤ minG x o := by unfold minG; split <;> omega
      refine ⟨X.length - 1, reloc_length _ _ _ _, reloc_length _ _ _ _, by omega, by omega, reloc_rows (by omega) (fun k hk => ?_), reloc_rows (by omega) (fun k hk => ?_)⟩
      · have := rX.get hk
        simp only [mvDel]; split <;> omega
      · have := rO.get hk
        simp only [mvDel]; split <;> omega
    · simp at h0
  simp only [if_neg k3] at h0 ⊢
  have k4 : k = 4 := by omega
  subst k4
  have ha' : a < X.length + 1 := by simp only [limAt] at ha; simp at ha; omega
  have hv' : v < 2 * X.length := by simp only [limVar] at hv; simp at hv; omega
  unfold staM at h0 ⊢
  split at h0
  · simp at h0
  · rename_i hc
    simp only [if_neg hc]
    generalize decide (v % 2 = 0) = st
    have hr : v / 2 < X.length := by omega
    generalize v / 2 = r at *
    refine ⟨X.length + 1, by simp [staX, reloc_length], by simp [staO, reloc_length], by omega, by omega, Rows.set (reloc_rows (by omega) (fun k hk => ?_)) _ ?_, Rows.set (reloc_rows (by omega) (fun k hk => ?_)) _ ?_⟩
    · have := rX.get hk
      simp only [mvAdd]; split <;> omega
    · split <;> omega
    · have := rO.get hk
      simp only [mvAdd]; split <;> omega
    · split <;> omega
theorem permFrom_rows {n : Nat} : ∀ (l s : List Int), permFrom n s l = true → Rows n l := by
  intro l
  induction l with
  | nil => intro s _ x hx; simp at hx
  | cons y ys ih =>
    intro s h x hx
    simp only [permFrom, Bool.and_eq_true, decide_eq_true_eq] at h
    rcases List.mem_cons.1 hx with rfl | hx
    · exact ⟨h.1.1.1, h.1.1.2⟩
    · exact ih _ h.2 x hx
theorem validB_facts {X O : List Int} (h : validB X O = true) : 2 ≤ X.length ∧ X.length ≤ 40 ∧ X.length = O.length ∧ Rows X.length X ∧ Rows X.length O := by
  simp only [validB, Bool.and_eq_true, decide_eq_true_eq, permB] at h
  obtain ⟨⟨⟨⟨⟨h1, h2⟩, h3⟩, _⟩, h5⟩, h6⟩ := h
  exact ⟨h1, h2, h3.symm, permFrom_rows _ _ h5, by rw [← h3]; exact permFrom_rows _ _ h6⟩
end Go.Proofs.YteliflcbegcdlaaGreatDoor

namespace Go.Proofs.YteliflcbegcdlaaGreatDoor
open Go.RowKit
set_option linter.unusedVariables false
/-- the transposed list -/
def tr (l : List Int) : List Int := reloc mvT true l.length l
def applyM (X O : List Int) (k : Int) (rows : Bool) (a v : Int) : Int × List Int × List Int :=
  if validB X O = false then (1, [], [])
  else if limAt k X.length = 0 then (11, [], [])
  else if a < 0 ∨ limAt k X.length ≤ a ∨ v < 0 ∨ limVar k X.length ≤ v then (2, [], [])
  else if rows = false then colsM X O k a.toNat v.toNat
  else if (colsM (tr X) (tr O) k a.toNat v.toNat).1 = 0 then (0, tr (colsM (tr X) (tr O) k a.toNat v.toNat).2.1, tr (colsM (tr X) (tr O) k a.toNat v.toNat).2.2)
  else ((colsM (tr X) (tr O) k a.toNat v.toNat).1, [], [])
theorem limAt_zero {k n : Int} (hn : 2 ≤ n) : limAt k n = 0 ↔ ¬ (1 ≤ k ∧ k ≤ 4) := by
  unfold limAt
  repeat' split
  all_goals omega
set_option maxHeartbeats 1000000 in
theorem apply_invalid (vx vo : Value) (X O : List Int) (k : Int) (rows : Bool) (a v : Int) (w : World) (hX : Ints w vx X) (hO : Ints w vo O) (hl : X.length ≤ 1000) (hl' : O.length ≤ 1000) (hv : validB X O = false) :
    Calls Tryz.prog 50 #[.agg #[vx, vo], .agg #[.int .i64 k, .bool rows, .int .i64 a, .int .i64 v]] w (GRes w.heap.size w (applyM X O k rows a v)) := by
  have hfin := Lib.hid (show applyM X O k rows a v = (1, [], []) by simp only [applyM]; rw [if_pos hv])
  have hX0 := hX
  have hO0 := hO
  obtain ⟨A, c, rfl, hc, hh⟩ := hX
  obtain ⟨A', c', rfl, hc', hh'⟩ := hO
  clear hh hh'
  go_enter Tryz.func50, Tryz.ntmps50
  go_wp2_with fail
  have hW : Arr (((w.alloc (.cells #[.slice A X.length c, .slice A' O.length c'] 24)).alloc (.cells #[.int .i64 k, .bool rows, .int .i64 a, .int .i64 v] 94)).alloc (.cells #[.slice none 0 0, .slice none 0 0] 24)) w.heap.size 24 [.slice A X.length c, .slice A' O.length c'] ∧ Arr (((w.alloc (.cells #[.slice A X.length c, .slice A' O.length c'] 24)).alloc (.cells #[.int .i64 k, .bool rows, .int .i64 a, .int .i64 v] 94)).alloc (.cells #[.slice none 0 0, .slice none 0 0] 24)) (w.heap.size + 1) 94 [.int .i64 k, .bool rows, .int .i64 a, .int .i64 v] ∧ Arr (((w.alloc (.cells #[.slice A X.length c, .slice A' O.length c'] 24)).alloc (.cells #[.int .i64 k, .bool rows, .int .i64 a, .int .i64 v] 94)).alloc (.cells #[.slice none 0 0, .slice none 0 0] 24)) (w.heap.size + 2) 24 [.slice none 0 0, .slice none 0 0] ∧ Below w.heap.size w (((w.alloc (.cells #[.slice A X.length c, .slice A' O.length c'] 24)).alloc (.cells #[.int .i64 k, .bool rows, .int .i64 a, .int .i64 v] 94)).alloc (.cells #[.slice none 0 0, .slice none 0 0] 24)) ∧ (((w.alloc (.cells #[.slice A X.length c, .slice A' O.length c'] 24)).alloc (.cells #[.int .i64 k, .bool rows, .int .i64 a, .int .i64 v] 94)).alloc (.cells #[.slice none 0 0, .slice none 0 0] 24)).heap.size = w.heap.size + 3 :=
    ⟨((Arr.new _ _ [_, _]).alloc _).alloc _, (Arr.newAt (w.alloc _) _ [_, _, _, _] _ (by simp)).alloc _, Arr.newAt ((w.alloc _).alloc _) _ [_, _] _ (by simp),
      (((Below.refl _ _).alloc (Nat.le_refl _) _).alloc (by simp) _).alloc (by simp <;> omega) _, by simp⟩
  generalize (((w.alloc (.cells #[.slice A X.length c, .slice A' O.length c'] 24)).alloc (.cells #[.int .i64 k, .bool rows, .int .i64 a, .int .i64 v] 94)).alloc (.cells #[.slice none 0 0, .slice none 0 0] 24)) = w4 at hW ⊢
  obtain ⟨q0, q1, q2, hb4, hs4⟩ := hW
  refine (valid_any _ _ X O _ (hX0.below hb4) (hO0.below hb4) hl hl').mono ?_
  rintro e w5 ⟨rfl, hb5⟩
  have hbw5 := hb4.trans (hb5.mono hb4.size)
  have p0 := q0.below hb5 q0.lt
  have p1 := q1.below hb5 q1.lt
  have p2 := q2.below hb5 q2.lt
  have hsz := hb5.size
  rw [hs4] at hsz
  clear q0 q1 q2 hb5 hb4 hs4
  have y0 := p0.cell 0
  have y1 := p0.cell 1
  have z0 := p1.cell 0
  have z1 := p1.cell 1
  have z2 := p1.cell 2
  have z3 := p1.cell 3
  have y2 := p2.cell 0
  have y3 := p2.cell 1
  have y4 := p2.frozen 0
  have y5 := p2.frozen 1
  rw [hv]
  have hzr := Lib.hid ((p2.set 0 (.slice none 0 0)).set 1 (.slice none 0 0))
  go_wp2_with fail
  refine bodyPost_ret (v := .tuple #[.agg #[.slice none 0 0, .slice none 0 0], .int .i64 1]) (results_ct Tryz.results50 _ _ (w.heap.size + 2) 24 _ _ rfl hzr.out Tryz.underlying24 rfl info_grid) rfl ?_
  rw [hfin.out]
  exact GRes.err (by decide) (bset2 (r := w.heap.size + 2) hbw5 (by omega))
set_option maxHeartbeats 1000000 in
theorem apply_kind (vx vo : Value) (X O : List Int) (k : Int) (rows : Bool) (a v : Int) (w : World) (hX : Ints w vx X) (hO : Ints w vo O) (hl : X.length ≤ 1000) (hl' : O.length ≤ 1000) (hv : validB X O = true) (hk : limAt k X.length = 0) :
    Calls Tryz.prog 50 #[.agg #[vx, vo], .agg #[.int .i64 k, .bool rows, .int .i64 a, .int .i64 v]] w (GRes w.heap.size w (applyM X O k rows a v)) := by
  have hfin := Lib.hid (show applyM X O k rows a v = (11, [], []) by simp only [applyM]; rw [if_neg (by simp [hv]), if_pos hk])
  have HK := Lib.hid hk
  clear hk
  have hX0 := hX
  have hO0 := hO
  obtain ⟨A, c, rfl, hc, hh⟩ := hX
  obtain ⟨A', c', rfl, hc', hh'⟩ := hO
  clear hh hh'
  go_enter Tryz.func50, Tryz.ntmps50
  go_wp2_with fail
  have hW : Arr (((w.alloc (.cells #[.slice A X.length c, .slice A' O.length c'] 24)).alloc (.cells #[.int .i64 k, .bool rows, .int .i64 a, .int .i64 v] 94)).alloc (.cells #[.slice none 0 0, .slice none 0 0] 24)) w.heap.size 24 [.slice A X.length c, .slice A' O.length c'] ∧ Arr (((w.alloc (.cells #[.slice A X.length c, .slice A' O.length c'] 24)).alloc (.cells #[.int .i64 k, .bool rows, .int .i64 a, .int .i64 v] 94)).alloc (.cells #[.slice none 0 0, .slice none 0 0] 24)) (w.heap.size + 1) 94 [.int .i64 k, .bool rows, .int .i64 a, .int .i64 v] ∧ Arr (((w.alloc (.cells #[.slice A X.length c, .slice A' O.length c'] 24)).alloc (.cells #[.int .i64 k, .bool rows, .int .i64 a, .int .i64 v] 94)).alloc (.cells #[.slice none 0 0, .slice none 0 0] 24)) (w.heap.size + 2) 24 [.slice none 0 0, .slice none 0 0] ∧ Below w.heap.size w (((w.alloc (.cells #[.slice A X.length c, .slice A' O.length c'] 24)).alloc (.cells #[.int .i64 k, .bool rows, .int .i64 a, .int .i64 v] 94)).alloc (.cells #[.slice none 0 0, .slice none 0 0] 24)) ∧ (((w.alloc (.cells #[.slice A X.length c, .slice A' O.length c'] 24)).alloc (.cells #[.int .i64 k, .bool rows, .int .i64 a, .int .i64 v] 94)).alloc (.cells #[.slice none 0 0, .slice none 0 0] 24)).heap.size = w.heap.size + 3 :=
    ⟨((Arr.new _ _ [_, _]).alloc _).alloc _, (Arr.newAt (w.alloc _) _ [_, _, _, _] _ (by simp)).alloc _, Arr.newAt ((w.alloc _).alloc _) _ [_, _] _ (by simp),
      (((Below.refl _ _).alloc (Nat.le_refl _) _).alloc (by simp) _).alloc (by simp <;> omega) _, by simp⟩
  generalize (((w.alloc (.cells #[.slice A X.length c, .slice A' O.length c'] 24)).alloc (.cells #[.int .i64 k, .bool rows, .int .i64 a, .int .i64 v] 94)).alloc (.cells #[.slice none 0 0, .slice none 0 0] 24)) = w4 at hW ⊢
  obtain ⟨q0, q1, q2, hb4, hs4⟩ := hW
  refine (valid_any _ _ X O _ (hX0.below hb4) (hO0.below hb4) hl hl').mono ?_
  rintro e w5 ⟨rfl, hb5⟩
  have hbw5 := hb4.trans (hb5.mono hb4.size)
  have p0 := q0.below hb5 q0.lt
  have p1 := q1.below hb5 q1.lt
  have p2 := q2.below hb5 q2.lt
  have hsz := hb5.size
  rw [hs4] at hsz
  clear q0 q1 q2 hb5 hb4 hs4
  have y0 := p0.cell 0
  have y1 := p0.cell 1
  have z0 := p1.cell 0
  have z1 := p1.cell 1
  have z2 := p1.cell 2
  have z3 := p1.cell 3
  have y2 := p2.cell 0
  have y3 := p2.cell 1
  have y4 := p2.frozen 0
  have y5 := p2.frozen 1
  rw [hv]
  have hzr := Lib.hid ((p2.set 0 (.slice none 0 0)).set 1 (.slice none 0 0))
  go_wp2_with fail
  refine (limits_any k X.length _ (by omega) (by have := (validB_facts hv).2.1; omega)).mono ?_
  rintro e w6 ⟨rfl, rfl⟩
  rw [HK.out]
  go_wp2_with fail
  refine bodyPost_ret (v := .tuple #[.agg #[.slice none 0 0, .slice none 0 0], .int .i64 11]) (results_ct Tryz.results50 _ _ (w.heap.size + 2) 24 _ _ rfl hzr.out Tryz.underlying24 rfl info_grid) rfl ?_
  rw [hfin.out]
  exact GRes.err (by decide) (bset2 (r := w.heap.size + 2) hbw5 (by omega))
set_option maxHeartbeats 1000000 in
theorem apply_range (vx vo : Value) (X O : List Int) (k : Int) (rows : Bool) (a v : Int) (w : World) (hX : Ints w vx X) (hO : Ints w vo O) (hl : X.length ≤ 1000) (hl' : O.length ≤ 1000) (hv : validB X O = true) (hk : ¬ limAt k X.length = 0) (hr : a < 0 ∨ limAt k X.length ≤ a ∨ v < 0 ∨ limVar k X.length ≤ v) :
    Calls Tryz.prog 50 #[.agg #[vx, vo], .agg #[.int .i64 k, .bool rows, .int .i64 a, .int .i64 v]] w (GRes w.heap.size w (applyM X O k rows a v)) := by
  have hfin := Lib.hid (show applyM X O k rows a v = (2, [], []) by simp only [applyM]; rw [if_neg (by simp [hv]), if_neg hk, if_pos hr])
  have hd : (limAt k X.length == 0) = false := by simpa using hk
  clear hk
  have hX0 := hX
  have hO0 := hO
  obtain ⟨A, c, rfl, hc, hh⟩ := hX
  obtain ⟨A', c', rfl, hc', hh'⟩ := hO
  clear hh hh'
  go_enter Tryz.func50, Tryz.ntmps50
  go_wp2_with fail
  have hW : Arr (((w.alloc (.cells #[.slice A X.length c, .slice A' O.length c'] 24)).alloc (.cells #[.int .i64 k, .bool rows, .int .i64 a, .int .i64 v] 94)).alloc (.cells #[.slice none 0 0, .slice none 0 0] 24)) w.heap.size 24 [.slice A X.length c, .slice A' O.length c'] ∧ Arr (((w.alloc (.cells #[.slice A X.length c, .slice A' O.length c'] 24)).alloc (.cells #[.int .i64 k, .bool rows, .int .i64 a, .int .i64 v] 94)).alloc (.cells #[.slice none 0 0, .slice none 0 0] 24)) (w.heap.size + 1) 94 [.int .i64 k, .bool rows, .int .i64 a, .int .i64 v] ∧ Arr (((w.alloc (.cells #[.slice A X.length c, .slice A' O.length c'] 24)).alloc (.cells #[.int .i64 k, .bool rows, .int .i64 a, .int .i64 v] 94)).alloc (.cells #[.slice none 0 0, .slice none 0 0] 24)) (w.heap.size + 2) 24 [.slice none 0 0, .slice none 0 0] ∧ Below w.heap.size w (((w.alloc (.cells #[.slice A X.length c, .slice A' O.length c'] 24)).alloc (.cells #[.int .i64 k, .bool rows, .int .i64 a, .int .i64 v] 94)).alloc (.cells #[.slice none 0 0, .slice none 0 0] 24)) ∧ (((w.alloc (.cells #[.slice A X.length c, .slice A' O.length c'] 24)).alloc (.cells #[.int .i64 k, .bool rows, .int .i64 a, .int .i64 v] 94)).alloc (.cells #[.slice none 0 0, .slice none 0 0] 24)).heap.size = w.heap.size + 3 :=
    ⟨((Arr.new _ _ [_, _]).alloc _).alloc _, (Arr.newAt (w.alloc _) _ [_, _, _, _] _ (by simp)).alloc _, Arr.newAt ((w.alloc _).alloc _) _ [_, _] _ (by simp),
      (((Below.refl _ _).alloc (Nat.le_refl _) _).alloc (by simp) _).alloc (by simp <;> omega) _, by simp⟩
  generalize (((w.alloc (.cells #[.slice A X.length c, .slice A' O.length c'] 24)).alloc (.cells #[.int .i64 k, .bool rows, .int .i64 a, .int .i64 v] 94)).alloc (.cells #[.slice none 0 0, .slice none 0 0] 24)) = w4 at hW ⊢
  obtain ⟨q0, q1, q2, hb4, hs4⟩ := hW
  refine (valid_any _ _ X O _ (hX0.below hb4) (hO0.below hb4) hl hl').mono ?_
  rintro e w5 ⟨rfl, hb5⟩
  have hbw5 := hb4.trans (hb5.mono hb4.size)
  have p0 := q0.below hb5 q0.lt
  have p1 := q1.below hb5 q1.lt
  have p2 := q2.below hb5 q2.lt
  have hsz := hb5.size
  rw [hs4] at hsz
  clear q0 q1 q2 hb5 hb4 hs4
  have y0 := p0.cell 0
  have y1 := p0.cell 1
  have z0 := p1.cell 0
  have z1 := p1.cell 1
  have z2 := p1.cell 2
  have z3 := p1.cell 3
  have y2 := p2.cell 0
  have y3 := p2.cell 1
  have y4 := p2.frozen 0
  have y5 := p2.frozen 1
  rw [hv]
  have hzr := Lib.hid ((p2.set 0 (.slice none 0 0)).set 1 (.slice none 0 0))
  go_wp2_with fail
  refine (limits_any k X.length _ (by omega) (by have := (validB_facts hv).2.1; omega)).mono ?_
  rintro e w6 ⟨rfl, rfl⟩
  generalize limAt k X.length = la at *
  generalize limVar k X.length = lv at *
  by_cases t1 : a < 0
  · go_wp2_with fail
    refine bodyPost_ret (v := .tuple #[.agg #[.slice none 0 0, .slice none 0 0], .int .i64 2]) (results_ct Tryz.results50 _ _ (w.heap.size + 2) 24 _ _ rfl hzr.out Tryz.underlying24 rfl info_grid) rfl ?_
    rw [hfin.out]
    exact GRes.err (by decide) (bset2 (r := w.heap.size + 2) hbw5 (by omega))
  by_cases t2 : la ≤ a
  · have t1' : 0 ≤ a := by omega
    clear t1
    go_wp2_with fail
    refine bodyPost_ret (v := .tuple #[.agg #[.slice none 0 0, .slice none 0 0], .int .i64 2]) (results_ct Tryz.results50 _ _ (w.heap.size + 2) 24 _ _ rfl hzr.out Tryz.underlying24 rfl info_grid) rfl ?_
    rw [hfin.out]
    exact GRes.err (by decide) (bset2 (r := w.heap.size + 2) hbw5 (by omega))
  by_cases t3 : v < 0
  · have t1' : 0 ≤ a := by omega
    have t2' : a < la := by omega
    clear t1 t2
    go_wp2_with fail
    refine bodyPost_ret (v := .tuple #[.agg #[.slice none 0 0, .slice none 0 0], .int .i64 2]) (results_ct Tryz.results50 _ _ (w.heap.size + 2) 24 _ _ rfl hzr.out Tryz.underlying24 rfl info_grid) rfl ?_
    rw [hfin.out]
    exact GRes.err (by decide) (bset2 (r := w.heap.size + 2) hbw5 (by omega))
  have t1' : 0 ≤ a := by omega
  have t2' : a < la := by omega
  have t3' : 0 ≤ v := by omega
  have t4 : lv ≤ v := by omega
  have u1 : decide (a < 0) = false := by simp; omega
  have u2 : decide (la ≤ a) = false := by simp; omega
  have u3 : decide (v < 0) = false := by simp; omega
  have u4 : decide (lv ≤ v) = true := by simp; omega
  clear t1 t2 t3 hr
  go_wp2_with fail
  refine bodyPost_ret (v := .tuple #[.agg #[.slice none 0 0, .slice none 0 0], .int .i64 2]) (results_ct Tryz.results50 _ _ (w.heap.size + 2) 24 _ _ rfl hzr.out Tryz.underlying24 rfl info_grid) rfl ?_
  rw [hfin.out]
  exact GRes.err (by decide) (bset2 (r := w.heap.size + 2) hbw5 (by omega))
set_option maxHeartbeats 1000000 in
theorem apply_cols (vx vo : Value) (X O : List Int) (k : Int) (rows : Bool) (a v : Int) (w : World) (hX : Ints w vx X) (hO : Ints w vo O) (hl : X.length ≤ 1000) (hl' : O.length ≤ 1000) (hv : validB X O = true) (hk : ¬ limAt k X.length = 0) (hr : ¬ (a < 0 ∨ limAt k X.length ≤ a ∨ v < 0 ∨ limVar k X.length ≤ v)) :
    Calls Tryz.prog 50 #[.agg #[vx, vo], .agg #[.int .i64 k, .bool false, .int .i64 a, .int .i64 v]] w (GRes w.heap.size w (applyM X O k false a v)) := by
  have hfin := Lib.hid (show applyM X O k false a v = colsM X O k a.toNat v.toNat by simp only [applyM]; rw [if_neg (by simp [hv]), if_neg hk, if_neg hr, if_pos trivial])
  have hd : (limAt k X.length == 0) = false := by simpa using hk
  have vf := Lib.hid (validB_facts hv)
  have hkk := (not_congr (limAt_zero (k := k) (n := X.length) (by have := vf.out.1; omega))).1 hk
  have HK := Lib.hid (Decidable.not_not.1 hkk)
  have HR := Lib.hid hr
  have r1 : 0 ≤ a := by omega
  have r2 : a < limAt k X.length := by omega
  have r3 : 0 ≤ v := by omega
  have r4 : v < limVar k X.length := by omega
  clear hk hkk hr
  obtain ⟨a, rfl⟩ := Int.eq_ofNat_of_zero_le r1
  obtain ⟨v, rfl⟩ := Int.eq_ofNat_of_zero_le r3
  rw [Int.toNat_natCast, Int.toNat_natCast] at hfin
  have hX0 := hX
  have hO0 := hO
  obtain ⟨A, c, rfl, hc, hh⟩ := hX
  obtain ⟨A', c', rfl, hc', hh'⟩ := hO
  clear hh hh'
  go_enter Tryz.func50, Tryz.ntmps50
  go_wp2_with fail
  have hW : Arr (((w.alloc (.cells #[.slice A X.length c, .slice A' O.length c'] 24)).alloc (.cells #[.int .i64 k, .bool false, .int .i64 (a : Int), .int .i64 (v : Int)] 94)).alloc (.cells #[.slice none 0 0, .slice none 0 0] 24)) w.heap.size 24 [.slice A X.length c, .slice A' O.length c'] ∧ Arr (((w.alloc (.cells #[.slice A X.length c, .slice A' O.length c'] 24)).alloc (.cells #[.int .i64 k, .bool false, .int .i64 (a : Int), .int .i64 (v : Int)] 94)).alloc (.cells #[.slice none 0 0, .slice none 0 0] 24)) (w.heap.size + 1) 94 [.int .i64 k, .bool false, .int .i64 (a : Int), .int .i64 (v : Int)] ∧ Arr (((w.alloc (.cells #[.slice A X.length c, .slice A' O.length c'] 24)).alloc (.cells #[.int .i64 k, .bool false, .int .i64 (a : Int), .int .i64 (v : Int)] 94)).alloc (.cells #[.slice none 0 0, .slice none 0 0] 24)) (w.heap.size + 2) 24 [.slice none 0 0, .slice none 0 0] ∧ Below w.heap.size w (((w.alloc (.cells #[.slice A X.length c, .slice A' O.length c'] 24)).alloc (.cells #[.int .i64 k, .bool false, .int .i64 (a : Int), .int .i64 (v : Int)] 94)).alloc (.cells #[.slice none 0 0, .slice none 0 0] 24)) ∧ (((w.alloc (.cells #[.slice A X.length c, .slice A' O.length c'] 24)).alloc (.cells #[.int .i64 k, .bool false, .int .i64 (a : Int), .int .i64 (v : Int)] 94)).alloc (.cells #[.slice none 0 0, .slice none 0 0] 24)).heap.size = w.heap.size + 3 :=
    ⟨((Arr.new _ _ [_, _]).alloc _).alloc _, (Arr.newAt (w.alloc _) _ [_, _, _, _] _ (by simp)).alloc _, Arr.newAt ((w.alloc _).alloc _) _ [_, _] _ (by simp),
      (((Below.refl _ _).alloc (Nat.le_refl _) _).alloc (by simp) _).alloc (by simp <;> omega) _, by simp⟩
  generalize (((w.alloc (.cells #[.slice A X.length c, .slice A' O.length c'] 24)).alloc (.cells #[.int .i64 k, .bool false, .int .i64 (a : Int), .int .i64 (v : Int)] 94)).alloc (.cells #[.slice none 0 0, .slice none 0 0] 24)) = w4 at hW ⊢
  obtain ⟨q0, q1, q2, hb4, hs4⟩ := hW
  refine (valid_any _ _ X O _ (hX0.below hb4) (hO0.below hb4) hl hl').mono ?_
  rintro e w5 ⟨rfl, hb5⟩
  have hbw5 := hb4.trans (hb5.mono hb4.size)
  have p0 := q0.below hb5 q0.lt
  have p1 := q1.below hb5 q1.lt
  have p2 := q2.below hb5 q2.lt
  have hsz := hb5.size
  rw [hs4] at hsz
  clear q0 q1 q2 hb5 hb4 hs4
  have y0 := p0.cell 0
  have y1 := p0.cell 1
  have z0 := p1.cell 0
  have z1 := p1.cell 1
  have z2 := p1.cell 2
  have z3 := p1.cell 3
  have y2 := p2.cell 0
  have y3 := p2.cell 1
  have y4 := p2.frozen 0
  have y5 := p2.frozen 1
  rw [hv]
  go_wp2_with fail
  refine (limits_any k X.length _ (by omega) (by have := (validB_facts hv).2.1; omega)).mono ?_
  rintro e w6 ⟨rfl, rfl⟩
  have HC := Lib.hid (columns_any (.slice A X.length c) (.slice A' O.length c') X O false a v w5 (hX0.below hbw5) (hO0.below hbw5) vf.out.2.1 vf.out.1 vf.out.2.2.1 vf.out.2.2.2.1 vf.out.2.2.2.2 k HK.out r2 r4)
  generalize limAt k X.length = la at *
  generalize limVar k X.length = lv at *
  have u1 : decide ((a : Int) < 0) = false := by simp
  have u2 : decide (la ≤ (a : Int)) = false := by simp; omega
  have u3 : decide ((v : Int) < 0) = false := by simp
  have u4 : decide (lv ≤ (v : Int)) = false := by simp; omega
  go_wp2_with fail
  clear u1 u2 u3 u4
  refine HC.out.mono ?_
  rintro e w6 ⟨hb6, v6, rfl, hres⟩
  have hr := p2.below hb6 p2.lt
  have hbw6 := hbw5.trans (hb6.mono hbw5.size)
  have hlt6 := p2.lt
  clear y0 y1 y2 y3 y4 y5 z0 z1 z2 z3 HC
  have s0 := hr.cell 0
  have s1 := hr.cell 1
  have s2 := hr.frozen 0
  have s3 := hr.frozen 1
  generalize colsM X O k a v = R at *
  obtain ⟨R1, R2, R3⟩ := R
  by_cases h0 : R1 = 0
  · subst h0
    rw [if_pos rfl] at hres
    obtain ⟨gx, go, rfl, e1, e2, e3, a1, a2⟩ := hres
    have hres := Lib.hid ((hr.set 0 (.slice (some ⟨gx, 0, none⟩) R2.length R2.length)).set 1 (.slice (some ⟨go, 0, none⟩) R3.length R3.length))
    go_wp2_with fail
    refine bodyPost_ret (v := .tuple #[.agg #[.slice (some ⟨gx, 0, none⟩) R2.length R2.length, .slice (some ⟨go, 0, none⟩) R3.length R3.length], .int .i64 0]) (results_ct Tryz.results50 _ _ (w.heap.size + 2) 24 _ _ rfl hres.out Tryz.underlying24 rfl info_grid) rfl ?_
    rw [hfin.out]
    exact GRes.ok (bset2 (r := w.heap.size + 2) hbw6 (by omega)) ⟨gx, go, rfl, e1, by omega, by omega, a1.far2 (r := w.heap.size + 2) (by omega), a2.far2 (r := w.heap.size + 2) (by omega)⟩
  · rw [if_neg h0] at hres
    subst hres
    have hres := Lib.hid ((hr.set 0 (.slice none 0 0)).set 1 (.slice none 0 0))
    go_wp2_with fail
    refine bodyPost_ret (v := .tuple #[.agg #[.slice none 0 0, .slice none 0 0], .int .i64 R1]) (results_ct Tryz.results50 _ _ (w.heap.size + 2) 24 _ _ rfl hres.out Tryz.underlying24 rfl info_grid) rfl ?_
    rw [hfin.out]
    exact ⟨bset2 (r := w.heap.size + 2) hbw6 (by omega), _, rfl, by rw [if_neg h0]⟩
end Go.Proofs.YteliflcbegcdlaaGreatDoor

namespace Go.Proofs.YteliflcbegcdlaaGreatDoor
open Go.RowKit
set_option linter.unusedVariables false
theorem reloc_mvT (b : Bool) (n : Nat) (l : List Int) : reloc mvT b n l = reloc mvT true n l := by
  have h : ∀ (l : List Int) (i : Nat) (acc : List Int), relTo mvT b i l acc = relTo mvT true i l acc := by
    intro l
    induction l with
    | nil => intro i acc; rfl
    | cons x xs ih => intro i acc; simp only [relTo, relStep, mvT]; exact ih _ _
  exact h l 0 _
theorem tr_length (l : List Int) : (tr l).length = l.length := reloc_length _ _ _ _
theorem tr_rows {l : List Int} (h : 1 ≤ l.length) : Rows l.length (tr l) := reloc_rows (by omega) (fun k hk => by simp only [mvT]; omega)
def RowMid (B : Nat) (w : World) (s8 s9 : Value) (R : Int × List Int × List Int) : Prop :=
  ∃ g v0 v1, s8 = .pointer (some ⟨g, 0, none⟩) ∧ s9 = .int .i64 R.1 ∧ Arr w g 24 [v0, v1] ∧ Arr w (B + 2) 24 [.slice none 0 0, .slice none 0 0] ∧ (R.1 = 0 → Ints w v0 R.2.1 ∧ Ints w v1 R.2.2)
theorem transpose_tr (vx vo : Value) (X O : List Int) (w : World) (hX : Ints w vx X) (hO : Ints w vo O) (hlen : X.length = O.length) (hn : X.length ≤ 1000) (rX : Rows X.length X) (rO : Rows X.length O) :
    Calls Tryz.prog 75 #[.agg #[vx, vo]] w fun e w' => ∃ v, e = .returned v ∧ NewGrid w.heap.size w' v (tr X) (tr O) ∧ Below w.heap.size w w' := by
  have h := transpose_any vx vo X O w hX hO hlen hn rX rO
  have e : reloc mvT false X.length O = tr O := by rw [reloc_mvT, hlen]; rfl
  rw [e] at h
  exact h
theorem allocked {W : World} {w : World} {t : TypeId} {a b : Value} (hb : Below (W.alloc (.cells #[a, b] t)).heap.size (W.alloc (.cells #[a, b] t)) w) : Arr w W.heap.size t [a, b] := (Arr.new W t [a, b]).below hb (by simp)
theorem allockedD {W : World} {w : World} {t : TypeId} {a b : Value} (hb : Below (W.alloc (.cells #[a, b] t)).drew.heap.size (W.alloc (.cells #[a, b] t)).drew w) : Arr w W.heap.size t [a, b] := (Arr.new W t [a, b]).below (w := (W.alloc (.cells #[a, b] t)).drew) hb (by show W.heap.size < (W.alloc _).heap.size; simp)
theorem gres_parts {B : Nat} {w : World} {R : Int × List Int × List Int} {v : Value} (h : if R.1 = 0 then NewGrid B w v R.2.1 R.2.2 else v = .agg #[.slice none 0 0, .slice none 0 0]) :
    ∃ A0 n0 c0 A1 n1 c1, v = .agg #[.slice A0 n0 c0, .slice A1 n1 c1] ∧ (R.1 = 0 → ∀ W : World, (∀ b, B ≤ b → b < w.heap.size → W.heap[b]? = w.heap[b]?) → Ints W (.slice A0 n0 c0) R.2.1 ∧ Ints W (.slice A1 n1 c1) R.2.2) := by
  by_cases h0 : R.1 = 0
  · rw [if_pos h0] at h
    obtain ⟨gx, go, rfl, _, b1, b2, h1, h2⟩ := h
    refine ⟨_, _, _, _, _, _, rfl, fun _ W hW => ⟨Ints.of_arr (t := 3) ?_, Ints.of_arr (t := 3) ?_⟩⟩
    · exact (hW gx b1 h1.lt).trans h1
    · exact (hW go b2 h2.lt).trans h2
  · rw [if_neg h0] at h
    exact ⟨_, _, _, _, _, _, h, fun h' => absurd h' h0⟩
theorem heap_set2 (w : World) (r i j b : Nat) (u v : Value) (h : b ≠ r) : ((w.setCell ⟨r, i, none⟩ u).setCell ⟨r, j, none⟩ v).heap[b]? = w.heap[b]? := by
  rw [Below.heap_setCell _ _ _ _ h, Below.heap_setCell _ _ _ _ h]
set_option maxHeartbeats 1000000 in
theorem apply_rows (vx vo : Value) (X O : List Int) (k : Int) (rows : Bool) (a v : Int) (w : World) (hX : Ints w vx X) (hO : Ints w vo O) (hl : X.length ≤ 1000) (hl' : O.length ≤ 1000) (hv : validB X O = true) (hk : ¬ limAt k X.length = 0) (hr : ¬ (a < 0 ∨ limAt k X.length ≤ a ∨ v < 0 ∨ limVar k X.length ≤ v)) :
    Calls Tryz.prog 50 #[.agg #[vx, vo], .agg #[.int .i64 k, .bool true, .int .i64 a, .int .i64 v]] w (GRes w.heap.size w (applyM X O k true a v)) := by
  have hfin := Lib.hid (show applyM X O k true a v = if (colsM (tr X) (tr O) k a.toNat v.toNat).1 = 0 then (0, tr (colsM (tr X) (tr O) k a.toNat v.toNat).2.1, tr (colsM (tr X) (tr O) k a.toNat v.toNat).2.2) else ((colsM (tr X) (tr O) k a.toNat v.toNat).1, [], []) by simp only [applyM]; rw [if_neg (by simp [hv]), if_neg hk, if_neg hr, if_neg (by simp)])
  have hd : (limAt k X.length == 0) = false := by simpa using hk
  have vf := Lib.hid (validB_facts hv)
  have hkk := (not_congr (limAt_zero (k := k) (n := X.length) (by have := vf.out.1; omega))).1 hk
  have HK := Lib.hid (Decidable.not_not.1 hkk)
  have HR := Lib.hid hr
  have r1 : 0 ≤ a := by omega
  have r2 : a < limAt k X.length := by omega
  have r3 : 0 ≤ v := by omega
  have r4 : v < limVar k X.length := by omega
  clear hk hkk hr
  obtain ⟨a, rfl⟩ := Int.eq_ofNat_of_zero_le r1
  obtain ⟨v, rfl⟩ := Int.eq_ofNat_of_zero_le r3
  rw [Int.toNat_natCast, Int.toNat_natCast] at hfin
  have HRR := Lib.hid (fun h0 => colsM_rows (X := tr X) (O := tr O) (a := a) (v := v) HK.out (by rw [tr_length]; exact r2) (by rw [tr_length]; exact r4) (by rw [tr_length]; exact vf.out.1) (by rw [tr_length, tr_length]; exact vf.out.2.2.1) (by rw [tr_length]; exact tr_rows (by have := vf.out.1; omega)) (by rw [tr_length]; have := tr_rows (l := O) (by have := vf.out; omega); rw [← vf.out.2.2.1] at this; exact this) h0)
  have hX0 := hX
  have hO0 := hO
  obtain ⟨A, c, rfl, hc, hh⟩ := hX
  obtain ⟨A', c', rfl, hc', hh'⟩ := hO
  clear hh hh'
  go_enter Tryz.func50, Tryz.ntmps50
  go_wp2_with fail
  have hW : Arr (((w.alloc (.cells #[.slice A X.length c, .slice A' O.length c'] 24)).alloc (.cells #[.int .i64 k, .bool true, .int .i64 (a : Int), .int .i64 (v : Int)] 94)).alloc (.cells #[.slice none 0 0, .slice none 0 0] 24)) w.heap.size 24 [.slice A X.length c, .slice A' O.length c'] ∧ Arr (((w.alloc (.cells #[.slice A X.length c, .slice A' O.length c'] 24)).alloc (.cells #[.int .i64 k, .bool true, .int .i64 (a : Int), .int .i64 (v : Int)] 94)).alloc (.cells #[.slice none 0 0, .slice none 0 0] 24)) (w.heap.size + 1) 94 [.int .i64 k, .bool true, .int .i64 (a : Int), .int .i64 (v : Int)] ∧ Arr (((w.alloc (.cells #[.slice A X.length c, .slice A' O.length c'] 24)).alloc (.cells #[.int .i64 k, .bool true, .int .i64 (a : Int), .int .i64 (v : Int)] 94)).alloc (.cells #[.slice none 0 0, .slice none 0 0] 24)) (w.heap.size + 2) 24 [.slice none 0 0, .slice none 0 0] ∧ Below w.heap.size w (((w.alloc (.cells #[.slice A X.length c, .slice A' O.length c'] 24)).alloc (.cells #[.int .i64 k, .bool true, .int .i64 (a : Int), .int .i64 (v : Int)] 94)).alloc (.cells #[.slice none 0 0, .slice none 0 0] 24)) ∧ (((w.alloc (.cells #[.slice A X.length c, .slice A' O.length c'] 24)).alloc (.cells #[.int .i64 k, .bool true, .int .i64 (a : Int), .int .i64 (v : Int)] 94)).alloc (.cells #[.slice none 0 0, .slice none 0 0] 24)).heap.size = w.heap.size + 3 :=
    ⟨((Arr.new _ _ [_, _]).alloc _).alloc _, (Arr.newAt (w.alloc _) _ [_, _, _, _] _ (by simp)).alloc _, Arr.newAt ((w.alloc _).alloc _) _ [_, _] _ (by simp),
      (((Below.refl _ _).alloc (Nat.le_refl _) _).alloc (by simp) _).alloc (by simp <;> omega) _, by simp⟩
  generalize (((w.alloc (.cells #[.slice A X.length c, .slice A' O.length c'] 24)).alloc (.cells #[.int .i64 k, .bool true, .int .i64 (a : Int), .int .i64 (v : Int)] 94)).alloc (.cells #[.slice none 0 0, .slice none 0 0] 24)) = w4 at hW ⊢
  obtain ⟨q0, q1, q2, hb4, hs4⟩ := hW
  refine (valid_any _ _ X O _ (hX0.below hb4) (hO0.below hb4) hl hl').mono ?_
  rintro e w5 ⟨rfl, hb5⟩
  have hbw5 := hb4.trans (hb5.mono hb4.size)
  have p0 := q0.below hb5 q0.lt
  have p1 := q1.below hb5 q1.lt
  have p2 := q2.below hb5 q2.lt
  have hsz := hb5.size
  rw [hs4] at hsz
  clear q0 q1 q2 hb5 hb4 hs4
  have y0 := p0.cell 0
  have y1 := p0.cell 1
  have z0 := p1.cell 0
  have z1 := p1.cell 1
  have z2 := p1.cell 2
  have z3 := p1.cell 3
  have y2 := p2.cell 0
  have y3 := p2.cell 1
  have y4 := p2.frozen 0
  have y5 := p2.frozen 1
  rw [hv]
  go_wp2_with fail
  refine (limits_any k X.length _ (by omega) (by have := (validB_facts hv).2.1; omega)).mono ?_
  rintro e w6 ⟨rfl, rfl⟩
  have HC := Lib.hid (fun vx vo W hx ho => columns_any vx vo (tr X) (tr O) true a v W hx ho (by rw [tr_length]; exact vf.out.2.1) (by rw [tr_length]; exact vf.out.1) (by rw [tr_length, tr_length]; exact vf.out.2.2.1) (by rw [tr_length]; exact tr_rows (by have := vf.out.1; omega)) (by rw [tr_length]; have := tr_rows (l := O) (by have := vf.out; omega); rw [← vf.out.2.2.1] at this; exact this) k HK.out (by rw [tr_length]; exact r2) (by rw [tr_length]; exact r4))
  have HT := Lib.hid (fun W (hS : W.cell? ⟨w.heap.size, 0, none⟩ = some (.slice A X.length c) ∧ W.cell? ⟨w.heap.size, 1, none⟩ = some (.slice A' O.length c') ∧ W.cell? ⟨w.heap.size + 1, 0, none⟩ = some (.int .i64 k) ∧ W.cell? ⟨w.heap.size + 1, 1, none⟩ = some (.bool true) ∧ W.cell? ⟨w.heap.size + 1, 2, none⟩ = some (.int .i64 (a : Int)) ∧ W.cell? ⟨w.heap.size + 1, 3, none⟩ = some (.int .i64 (v : Int)) ∧ Below w5.heap.size w5 W) => transpose_tr (.slice A X.length c) (.slice A' O.length c') X O W (hX0.below (hbw5.trans (Below.mono hS.2.2.2.2.2.2 hbw5.size))) (hO0.below (hbw5.trans (Below.mono hS.2.2.2.2.2.2 hbw5.size))) vf.out.2.2.1 (by omega) vf.out.2.2.2.1 vf.out.2.2.2.2)
  have HJ := Lib.hid (fun W W' (hS : W.cell? ⟨w.heap.size, 0, none⟩ = some (.slice A X.length c) ∧ W.cell? ⟨w.heap.size, 1, none⟩ = some (.slice A' O.length c') ∧ W.cell? ⟨w.heap.size + 1, 0, none⟩ = some (.int .i64 k) ∧ W.cell? ⟨w.heap.size + 1, 1, none⟩ = some (.bool true) ∧ W.cell? ⟨w.heap.size + 1, 2, none⟩ = some (.int .i64 (a : Int)) ∧ W.cell? ⟨w.heap.size + 1, 3, none⟩ = some (.int .i64 (v : Int)) ∧ Below w5.heap.size w5 W) (hb : Below W.heap.size W W') => Below.trans hS.2.2.2.2.2.2 (hb.mono hS.2.2.2.2.2.2.size))
  have KS := Lib.hid (fun W (hb : Below w5.heap.size w5 W) => (⟨(hb.cell p0.lt).trans y0, (hb.cell p0.lt).trans y1, (hb.cell p1.lt).trans z0, (hb.cell p1.lt).trans z1, (hb.cell p1.lt).trans z2, (hb.cell p1.lt).trans z3, hb⟩ : W.cell? ⟨w.heap.size, 0, none⟩ = some (.slice A X.length c) ∧ W.cell? ⟨w.heap.size, 1, none⟩ = some (.slice A' O.length c') ∧ W.cell? ⟨w.heap.size + 1, 0, none⟩ = some (.int .i64 k) ∧ W.cell? ⟨w.heap.size + 1, 1, none⟩ = some (.bool true) ∧ W.cell? ⟨w.heap.size + 1, 2, none⟩ = some (.int .i64 (a : Int)) ∧ W.cell? ⟨w.heap.size + 1, 3, none⟩ = some (.int .i64 (v : Int)) ∧ Below w5.heap.size w5 W))
  generalize limAt k X.length = la at *
  generalize limVar k X.length = lv at *
  have u1 : decide ((a : Int) < 0) = false := by simp
  have u2 : decide (la ≤ (a : Int)) = false := by simp; omega
  have u3 : decide ((v : Int) < 0) = false := by simp
  have u4 : decide (lv ≤ (v : Int)) = false := by simp; omega
  go_upto_region 10 with fail
  clear u1 u2 u3 u4
  go_cut [8, 9] (fun s8 s9 wx => RowMid w.heap.size wx s8 s9 (colsM (tr X) (tr O) k a v) ∧ Below w.heap.size w wx)
  case first =>
    go_region_held3 (fun w' => w'.cell? ⟨w.heap.size, 0, none⟩ = some (.slice A X.length c) ∧ w'.cell? ⟨w.heap.size, 1, none⟩ = some (.slice A' O.length c') ∧ w'.cell? ⟨w.heap.size + 1, 0, none⟩ = some (.int .i64 k) ∧ w'.cell? ⟨w.heap.size + 1, 1, none⟩ = some (.bool true) ∧ w'.cell? ⟨w.heap.size + 1, 2, none⟩ = some (.int .i64 (a : Int)) ∧ w'.cell? ⟨w.heap.size + 1, 3, none⟩ = some (.int .i64 (v : Int)) ∧ Below w5.heap.size w5 w') ((refine KS.out _ ?_; repeat (first | exact Below.refl _ _ | exact hb8 | exact hb10 | refine Below.drew ?_ | refine Below.alloc ?_ (by first | exact hb10.size | exact hb8.size | exact Nat.le_refl _) _ | refine Below.setCell ?_ (by first | exact hb8.size | exact Nat.le_refl _) _)))
      (first
        | (go_at_call 75; refine (HT.out _ (by assumption)).mono ?_; rintro e w7 ⟨v7, rfl, ⟨gx, go, rfl, e1, e2, e3, a1, a2⟩, hb7⟩; have hb8 := HJ.out _ _ (by assumption) hb7; (first | have hz7 := allocked hb7 | have hz7 := allockedD hb7 | skip); clear hb7; have hi1 := Ints.of_arr a1; have hi2 := Ints.of_arr a2; clear e1 e2 e3 a1 a2)
        | (go_at_call 74; refine (HC.out _ _ _ (by first | exact hi1 | exact hi1.alloc _) (by first | exact hi2 | exact hi2.alloc _)).mono ?_; rintro e w9 ⟨hb9, v9, rfl, hres⟩; obtain ⟨A0, n0, c0, A1, n1, c1, rfl, hin⟩ := gres_parts hres; have hb10 := HJ.out _ _ (by assumption) hb9; (first | have hz9 := Arr.below hz7 hb9 hz7.lt | have hz9 := allocked hb9 | skip); (first | (have x0 := Arr.cell hz9 0; have x1 := Arr.cell hz9 1; have x2 := Arr.frozen hz9 0; have x3 := Arr.frozen hz9 1) | skip); clear hb9 hres))
    · go_wp2_with fail
      go_meet
      exact ⟨⟨w9.heap.size, _, _, rfl, rfl, Arr.new w9 _ [_, _], (p2.below hb10 p2.lt).alloc _, fun h0 => hin h0 _ (fun b _ hb => Below.heap_alloc _ _ _ hb)⟩, hbw5.trans ((hb10.alloc hb10.size _).mono hbw5.size)⟩
    · go_wp2_with fail
      go_meet
      exact ⟨⟨w7.heap.size, _, _, rfl, rfl, (hz9.set 0 _).set 1 _, (p2.below hb10 p2.lt).far2 (r := w7.heap.size) (by have := p2.lt; have := hb8.size; omega), fun h0 => hin h0 _ (fun b hb _ => heap_set2 _ _ _ _ _ _ _ (by simp at hb; omega))⟩, hbw5.trans ((bset2 (r := w7.heap.size) hb10 hb8.size).mono hbw5.size)⟩
    · go_wp2_with fail
      go_meet
      exact ⟨⟨w5.heap.size, _, _, rfl, rfl, (hz9.set 0 _).set 1 _, (p2.below hb10 p2.lt).far2 (r := w5.heap.size) (by have := p2.lt; omega), fun h0 => hin h0 _ (fun b hb _ => heap_set2 _ _ _ _ _ _ _ (by have := hz7.lt; omega))⟩, hbw5.trans ((bset2 (r := w5.heap.size) hb10 (Nat.le_refl _)).mono hbw5.size)⟩
  case rest =>
    clear y0 y1 z0 z1 z2 z3 y2 y3 y4 y5 p0 p1 p2 HC HT HJ KS hd
    obtain ⟨⟨g, v0, v1, rfl, rfl, hg, hr, hin⟩, hbw⟩ := hcut
    generalize colsM (tr X) (tr O) k a v = R at *
    obtain ⟨R1, R2, R3⟩ := R
    simp only at hin HRR hfin
    have s0 := hr.cell 0
    have s1 := hr.cell 1
    have s2 := hr.frozen 0
    have s3 := hr.frozen 1
    have t0 := hg.cell 0
    have t1 := hg.cell 1
    by_cases h0 : R1 = 0
    · subst h0
      have hfin := Lib.hid (hfin.out.trans (if_pos rfl))
      obtain ⟨m, m1, m2, m3, m4, m5, m6⟩ := HRR.out rfl
      obtain ⟨i1, i2⟩ := hin rfl
      have M1 := Lib.hid m1
      have M2 := Lib.hid m2
      clear m1 m2
      go_wp2_with fail
      refine (transpose_tr _ _ R2 R3 _ i1 i2 (by rw [M1.out, M2.out]) (by have := M1.out; have := vf.out; rw [tr_length] at m4; omega) (by rw [M1.out]; exact m5) (by rw [M1.out]; exact m6)).mono ?_
      rintro e w7 ⟨v7, rfl, ⟨gx, go, rfl, e1, e2, e3, a1, a2⟩, hb7⟩
      have hr' := hr.below hb7 hr.lt
      have hbw' := hbw.trans (hb7.mono hbw.size)
      have hlt := hr.lt
      clear s0 s1 s2 s3
      have s0 := hr'.cell 0
      have s1 := hr'.cell 1
      have s2 := hr'.frozen 0
      have s3 := hr'.frozen 1
      have hres := Lib.hid ((hr'.set 0 (.slice (some ⟨gx, 0, none⟩) (tr R2).length (tr R2).length)).set 1 (.slice (some ⟨go, 0, none⟩) (tr R3).length (tr R3).length))
      go_wp2_with fail
      refine bodyPost_ret (v := .tuple #[.agg #[.slice (some ⟨gx, 0, none⟩) (tr R2).length (tr R2).length, .slice (some ⟨go, 0, none⟩) (tr R3).length (tr R3).length], .int .i64 0]) (results_ct Tryz.results50 _ _ (w.heap.size + 2) 24 _ _ rfl hres.out Tryz.underlying24 rfl info_grid) rfl ?_
      rw [hfin.out]
      exact GRes.ok (bset2 (r := w.heap.size + 2) hbw' (by omega)) ⟨gx, go, rfl, e1, by omega, by omega, a1.far2 (r := w.heap.size + 2) (by omega), a2.far2 (r := w.heap.size + 2) (by omega)⟩
    · have hfin := Lib.hid (hfin.out.trans (if_neg h0))
      have hb0 : (R1 != 0) = true := by simpa using h0
      have H0 := Lib.hid h0
      clear h0
      have hres := Lib.hid ((hr.set 0 (.slice none 0 0)).set 1 (.slice none 0 0))
      go_wp2_with fail
      refine bodyPost_ret (v := .tuple #[.agg #[.slice none 0 0, .slice none 0 0], .int .i64 R1]) (results_ct Tryz.results50 _ _ (w.heap.size + 2) 24 _ _ rfl hres.out Tryz.underlying24 rfl info_grid) rfl ?_
      rw [hfin.out]
      exact ⟨bset2 (r := w.heap.size + 2) hbw (by omega), _, rfl, by rw [if_neg H0.out]⟩
end Go.Proofs.YteliflcbegcdlaaGreatDoor

namespace Go.Proofs.YteliflcbegcdlaaGreatDoor
set_option linter.unusedVariables false
open Go.RowKit
/-- each number from 0 on below the length, once -/
def Pm (l : List Int) : Prop := Rows l.length l ∧ l.Nodup
theorem permFrom_iff (n : Nat) : ∀ (l s : List Int), permFrom n s l = true ↔ (Rows n l ∧ (∀ x ∈ l, x ∉ s) ∧ l.Nodup) := by
  intro l
  induction l with
  | nil => intro s; simp [permFrom, Rows]
  | cons y ys ih =>
    intro s
    simp only [permFrom, Bool.and_eq_true, decide_eq_true_eq, Bool.not_eq_true', ih]
    constructor
    · rintro ⟨⟨⟨h1, h2⟩, h3⟩, h4, h5, h6⟩
      refine ⟨fun x hx => ?_, fun x hx => ?_, List.nodup_cons.2 ⟨fun hy => ?_, h6⟩⟩
      · rcases List.mem_cons.1 hx with rfl | hx
        · exact ⟨h1, h2⟩
        · exact h4 x hx
      · rcases List.mem_cons.1 hx with rfl | hx
        · simpa using h3
        · intro hs; exact h5 x hx (List.mem_append.2 (.inl hs))
      · exact h5 y hy (by simp)
    · rintro ⟨h1, h2, h3⟩
      obtain ⟨h4, h5⟩ := List.nodup_cons.1 h3
      refine ⟨⟨h1 y (by simp), by simpa using h2 y (by simp)⟩, fun x hx => h1 x (by simp [hx]), fun x hx hs => ?_, h5⟩
      rcases List.mem_append.1 hs with hs | hs
      · exact h2 x (by simp [hx]) hs
      · rw [List.mem_singleton.1 hs] at hx; exact h4 hx
theorem permB_iff (l : List Int) : permB l = true ↔ Pm l := by
  unfold permB Pm
  rw [permFrom_iff]
  simp
theorem neqB_iff : ∀ (X O : List Int), X.length = O.length → (neqB X O = true ↔ ∀ k (h : k < X.length) (h' : k < O.length), X[k] ≠ O[k]) := by
  intro X
  induction X with
  | nil => intro O h; simp [neqB]
  | cons x xs ih =>
    intro O h
    cases O with
    | nil => simp at h
    | cons o os =>
      have ih' := ih os (by simpa using h)
      simp only [neqB, List.zip_cons_cons, List.all_cons, Bool.and_eq_true] at ih' ⊢
      rw [ih']
      constructor
      · rintro ⟨h1, h2⟩ k hk hk'
        cases k with
        | zero => simpa using h1
        | succ k => simpa using h2 k (by simpa using hk) (by simpa using hk')
      · intro hh
        exact ⟨bne_iff_ne.2 (show x ≠ o from hh 0 (by simp) (by simp)), fun k hk hk' => (show xs[k] ≠ os[k] from hh (k + 1) (by simpa using hk) (by simpa using hk'))⟩
/-- a valid grid -/
structure Vd (X O : List Int) : Prop where
  two : 2 ≤ X.length
  most : X.length ≤ 40
  len : X.length = O.length
  pX : Pm X
  pO : Pm O
  ne : ∀ k (h : k < X.length) (h' : k < O.length), X[k] ≠ O[k]
theorem validB_iff (X O : List Int) : validB X O = true ↔ Vd X O := by
  simp only [validB, Bool.and_eq_true, decide_eq_true_eq, permB_iff]
  constructor
  · rintro ⟨⟨⟨⟨⟨h1, h2⟩, h3⟩, h4⟩, h5⟩, h6⟩
    exact ⟨h1, h2, h3.symm, h5, h6, (neqB_iff X O h3.symm).1 h4⟩
  · rintro ⟨h1, h2, h3, h4, h5, h6⟩
    exact ⟨⟨⟨⟨⟨h1, h2⟩, h3.symm⟩, (neqB_iff X O h3).2 h6⟩, h4⟩, h5⟩
theorem Pm.inj {l : List Int} (h : Pm l) {i j : Nat} (hi : i < l.length) (hj : j < l.length) (e : l[i] = l[j]) : i = j := (List.getElem_inj h.2).1 e
theorem Pm.get {l : List Int} (h : Pm l) {i : Nat} (hi : i < l.length) : 0 ≤ l[i] ∧ l[i] < l.length := h.1.get hi
/-- every row occurs -/
theorem Pm.surj {l : List Int} (h : Pm l) {j : Nat} (hj : j < l.length) : ∃ k, ∃ hk : k < l.length, l[k] = (j : Int) := by
  have hm : (j : Int) ∈ l := by
    apply Classical.byContradiction
    intro hn
    have h1 : ((j : Int) :: l).Nodup := List.nodup_cons.2 ⟨hn, h.2⟩
    have h2 : ((j : Int) :: l) ⊆ (List.range l.length).map (fun i : Nat => (i : Int)) := by
      intro x hx
      rcases List.mem_cons.1 hx with rfl | hx
      · exact List.mem_map.2 ⟨j, List.mem_range.2 hj, rfl⟩
      · obtain ⟨h3, h4⟩ := h.1 x hx
        exact List.mem_map.2 ⟨x.toNat, List.mem_range.2 (by omega), by omega⟩
    have h3 := h1.length_le_of_subset h2
    simp at h3
    omega
  obtain ⟨k, hk, e⟩ := List.mem_iff_getElem.1 hm
  exact ⟨k, hk, e⟩
theorem Pm.mk_inj {l : List Int} (h : Rows l.length l) (hi : ∀ i j (hi : i < l.length) (hj : j < l.length), l[i] = l[j] → i = j) : Pm l := by
  refine ⟨h, ?_⟩
  rw [List.nodup_iff_pairwise_ne, List.pairwise_iff_getElem]
  intro i j hi' hj' hlt e
  have := hi i j hi' hj' e
  omega
section
variable {mv : Int → Int → Bool → Int × Int} {b : Bool}
theorem relStep_other {i : Nat} {x : Int} {acc : List Int} {j : Nat} (h : (mv i x b).1 ≠ (j : Int)) : (relStep mv b i x acc)[j]? = acc[j]? := by
  unfold relStep
  split
  · rw [List.getElem?_set_ne (by omega)]
  · rfl
theorem relTo_other (xs : List Int) : ∀ (i : Nat) (acc : List Int) (j : Nat), (∀ k (h : k < xs.length), (mv (i + k : Nat) xs[k] b).1 ≠ (j : Int)) → (relTo mv b i xs acc)[j]? = acc[j]? := by
  induction xs with
  | nil => intro i acc j _; rfl
  | cons x xs ih =>
    intro i acc j h
    rw [relTo, ih (i + 1) _ j (fun k hk => by have := h (k + 1) (by simpa using hk); rw [show i + 1 + k = i + (k + 1) from by omega]; simpa using this)]
    exact relStep_other (by have := h 0 (by simp); simpa using this)
theorem relTo_get (xs : List Int) : ∀ (i : Nat) (acc : List Int) (j k : Nat) (hk : k < xs.length), j < acc.length → (mv (i + k : Nat) xs[k] b).1 = (j : Int) →
    (∀ k' (h : k' < xs.length), k' ≠ k → (mv (i + k' : Nat) xs[k'] b).1 ≠ (j : Int)) → (relTo mv b i xs acc)[j]? = some (mv (i + k : Nat) xs[k] b).2 := by
  induction xs with
  | nil => intro i acc j k hk; simp at hk
  | cons x xs ih =>
    intro i acc j k hk hj he hne
    rw [relTo]
    cases k with
    | zero =>
      rw [relTo_other xs (i + 1) _ j (fun k hk => by have := hne (k + 1) (by simpa using hk) (by omega); rw [show i + 1 + k = i + (k + 1) from by omega]; simpa using this)]
      simp only [Nat.add_zero, List.getElem_cons_zero] at he ⊢
      unfold relStep
      rw [if_pos (by omega), he]
      simp [hj]
    | succ k =>
      have := ih (i + 1) (relStep mv b i x acc) j k (by simpa using hk) (by rw [relStep_length]; exact hj) (by rw [show i + 1 + k = i + (k + 1) from by omega]; simpa using he)
        (fun k' h hk' => by have := hne (k' + 1) (by simpa using h) (by omega); rw [show i + 1 + k' = i + (k' + 1) from by omega]; simpa using this)
      rw [this, show i + 1 + k = i + (k + 1) from by omega]
      simp
/-- what stands at the place j: the mark of the one column that is led there -/
theorem reloc_get {xs : List Int} {n j k : Nat} (hk : k < xs.length) (hj : j < n) (he : (mv k xs[k] b).1 = (j : Int))
    (hne : ∀ k' (h : k' < xs.length), k' ≠ k → (mv k' xs[k'] b).1 ≠ (j : Int)) : (reloc mv b n xs)[j]? = some (mv k xs[k] b).2 := by
  have := relTo_get (mv := mv) (b := b) xs 0 (List.replicate n 0) j k hk (by simpa using hj) (by simpa using he) (fun k' h hk' => by simpa using hne k' h hk')
  simpa [reloc] using this
end
/-- the transposed list leads back -/
theorem tr_get {l : List Int} (h : Pm l) {k : Nat} (hk : k < l.length) : (tr l)[l[k].toNat]? = some (k : Int) := by
  have hg := h.get hk
  refine (reloc_get (mv := mvT) hk (by omega) (by simp only [mvT]; omega) (fun k' h' hne => ?_)).trans rfl
  simp only [mvT]
  intro e
  exact hne (h.inj h' hk (by omega))
theorem tr_get' {l : List Int} (h : Pm l) {j : Nat} (hj : j < l.length) : ∃ k, ∃ hk : k < l.length, l[k] = (j : Int) ∧ (tr l)[j]? = some (k : Int) := by
  obtain ⟨k, hk, e⟩ := h.surj hj
  refine ⟨k, hk, e, ?_⟩
  have := tr_get h hk
  rw [e] at this
  exact this
theorem tr_pm {l : List Int} (h : Pm l) : Pm (tr l) := by
  refine Pm.mk_inj ?_ (fun i j hi hj e => ?_)
  · rw [tr_length]
    intro x hx
    obtain ⟨j, hj, rfl⟩ := List.mem_iff_getElem.1 hx
    rw [tr_length] at hj
    obtain ⟨k, hk, _, e⟩ := tr_get' h hj
    have := (List.getElem?_eq_some_iff.1 e).2
    omega
  · rw [tr_length] at hi hj
    obtain ⟨k, hk, e1, e2⟩ := tr_get' h hi
    obtain ⟨k', hk', e3, e4⟩ := tr_get' h hj
    have e5 := (List.getElem?_eq_some_iff.1 e2).2
    have e6 := (List.getElem?_eq_some_iff.1 e4).2
    have : k = k' := by omega
    subst this
    omega
theorem tr_tr {l : List Int} (h : Pm l) : tr (tr l) = l := by
  apply List.ext_getElem?
  intro k
  by_cases hk : k < l.length
  · have hg := h.get hk
    have e1 := tr_get h hk
    have hlt : l[k].toNat < (tr l).length := by rw [tr_length]; omega
    have e2 := tr_get (tr_pm h) hlt
    have e3 := (List.getElem?_eq_some_iff.1 e1).2
    rw [e3] at e2
    simp only [Int.toNat_natCast] at e2
    rw [e2, List.getElem?_eq_getElem hk]
    congr 1
    omega
  · rw [List.getElem?_eq_none (by rw [tr_length, tr_length]; omega), List.getElem?_eq_none (by omega)]
theorem tr_vd {X O : List Int} (h : Vd X O) : Vd (tr X) (tr O) := by
  refine ⟨by rw [tr_length]; exact h.two, by rw [tr_length]; exact h.most, by rw [tr_length, tr_length]; exact h.len, tr_pm h.pX, tr_pm h.pO, fun j hj hj' e => ?_⟩
  rw [tr_length] at hj hj'
  obtain ⟨k, hk, e1, e2⟩ := tr_get' h.pX hj
  obtain ⟨k', hk', e3, e4⟩ := tr_get' h.pO hj'
  have e5 := (List.getElem?_eq_some_iff.1 e2).2
  have e6 := (List.getElem?_eq_some_iff.1 e4).2
  have : k = k' := by omega
  subst this
  exact h.ne k hk hk' (by omega)
end Go.Proofs.YteliflcbegcdlaaGreatDoor

namespace Go.Proofs.YteliflcbegcdlaaGreatDoor
set_option linter.unusedVariables false
open Go.RowKit
def rotL (X : List Int) : List Int := X.drop 1 ++ X.take 1
def swapL (X : List Int) (a : Nat) : List Int := (X.set a (X.getD (a + 1) 0)).set (a + 1) (X.getD a 0)
def lowr (r : Int) (x : Int) : Int := if r < x then x - 1 else x
def upr (r : Int) (too : Bool) (x : Int) : Int := if r < x ∨ (x = r ∧ too = true) then x + 1 else x
def delL (X : List Int) (a : Nat) (r : Int) : List Int := (X.take a ++ X.drop (a + 1)).map (lowr r)
def addL (X : List Int) (a : Nat) (r : Int) (too : Bool) (y : Int) : List Int := (X.map (upr r too)).take a ++ y :: (X.map (upr r too)).drop a
theorem rotL_length (X : List Int) : (rotL X).length = X.length := by simp [rotL]; omega
theorem swapL_length (X : List Int) (a : Nat) : (swapL X a).length = X.length := by simp [swapL]
theorem delL_length (X : List Int) (a : Nat) (r : Int) (h : a < X.length) : (delL X a r).length = X.length - 1 := by simp [delL]; omega
theorem addL_length (X : List Int) (a : Nat) (r : Int) (t : Bool) (y : Int) (h : a ≤ X.length) : (addL X a r t y).length = X.length + 1 := by simp [addL]; omega
theorem rotL_get (X : List Int) (j : Nat) (hj : j < X.length) : (rotL X)[j]? = X[(j + 1) % X.length]? := by
  unfold rotL
  by_cases h : j + 1 < X.length
  · rw [Nat.mod_eq_of_lt h, List.getElem?_append_left (by simp; omega), List.getElem?_drop, Nat.add_comm]
  · have e : j + 1 = X.length := by omega
    rw [e, Nat.mod_self, List.getElem?_append_right (by simp; omega), List.length_drop, List.getElem?_take]
    rw [show j - (X.length - 1) = 0 from by omega]
    simp
theorem swapL_get (X : List Int) (a j : Nat) (ha : a + 1 < X.length) : (swapL X a)[j]? = X[if j = a then a + 1 else if j = a + 1 then a else j]? := by
  unfold swapL
  by_cases h1 : j = a + 1
  · subst h1
    rw [if_neg (by omega), if_pos rfl, List.getElem?_set_self (by simp; omega), List.getD_eq_getElem?_getD, List.getElem?_eq_getElem (by omega)]
    rfl
  · rw [List.getElem?_set_ne (by omega)]
    by_cases h2 : j = a
    · subst h2
      rw [if_pos rfl, List.getElem?_set_self (by omega), List.getD_eq_getElem?_getD, List.getElem?_eq_getElem (by omega)]
      rfl
    · rw [List.getElem?_set_ne (by omega), if_neg h2, if_neg h1]
theorem delL_get (X : List Int) (a j : Nat) (r : Int) (ha : a < X.length) : (delL X a r)[j]? = (X[if j < a then j else j + 1]?).map (lowr r) := by
  unfold delL
  rw [List.getElem?_map]
  congr 1
  by_cases h : j < a
  · rw [if_pos h, List.getElem?_append_left (by simp; omega), List.getElem?_take, if_pos h]
  · rw [if_neg h, List.getElem?_append_right (by simp; omega), List.getElem?_drop, List.length_take]
    congr 1
    omega
theorem addL_get (X : List Int) (a j : Nat) (r : Int) (t : Bool) (y : Int) (ha : a ≤ X.length) :
    (addL X a r t y)[j]? = if j = a then some y else (X[if j < a then j else j - 1]?).map (upr r t) := by
  unfold addL
  by_cases h : j < a
  · rw [if_neg (by omega), if_pos h, List.getElem?_append_left (by simp; omega), List.getElem?_take, if_pos h, List.getElem?_map]
  · rw [List.getElem?_append_right (by simp; omega), List.length_take, List.length_map]
    by_cases h2 : j = a
    · subst h2
      rw [if_pos rfl, show j - min j X.length = 0 from by omega]
      rfl
    · rw [if_neg h2, if_neg h, show j - min a X.length = (j - 1 - a) + 1 from by omega, List.getElem?_cons_succ, List.getElem?_drop, List.getElem?_map]
      rw [show a + (j - 1 - a) = j - 1 from by omega]
theorem mvRot_col (n k j : Nat) (hn : 2 ≤ n) (hk : k < n) (hj : j < n) : (((k : Int) + n - 1) % (n : Int) = (j : Int)) ↔ k = (j + 1) % n := by
  by_cases h : j + 1 < n
  · rw [Nat.mod_eq_of_lt h]
    by_cases h0 : k = 0
    · subst h0
      rw [show (((0 : Nat) : Int) + n - 1) = ((n - 1 : Nat) : Int) from by omega, ← Int.natCast_emod, Nat.mod_eq_of_lt (by omega)]
      omega
    · rw [show ((k : Int) + n - 1) = ((k - 1 + n : Nat) : Int) from by omega, ← Int.natCast_emod, Nat.add_mod_right, Nat.mod_eq_of_lt (by omega)]
      omega
  · have e : j + 1 = n := by omega
    rw [e, Nat.mod_self]
    by_cases h0 : k = 0
    · subst h0
      rw [show (((0 : Nat) : Int) + n - 1) = ((n - 1 : Nat) : Int) from by omega, ← Int.natCast_emod, Nat.mod_eq_of_lt (by omega)]
      omega
    · rw [show ((k : Int) + n - 1) = ((k - 1 + n : Nat) : Int) from by omega, ← Int.natCast_emod, Nat.add_mod_right, Nat.mod_eq_of_lt (by omega)]
      omega
theorem reloc_rot (X : List Int) (b : Bool) (hn : 2 ≤ X.length) : reloc (mvRot X.length) b X.length X = rotL X := by
  apply List.ext_getElem?
  intro j
  by_cases hj : j < X.length
  · rw [rotL_get X j hj]
    have hk : (j + 1) % X.length < X.length := Nat.mod_lt _ (by omega)
    rw [List.getElem?_eq_getElem hk]
    refine (reloc_get (mv := mvRot X.length) hk hj ?_ (fun k' h hne => ?_)).trans rfl
    · exact (mvRot_col _ _ _ hn hk hj).2 rfl
    · intro e
      exact hne ((mvRot_col _ _ _ hn h hj).1 e)
  · rw [List.getElem?_eq_none (by rw [reloc_length]; omega), List.getElem?_eq_none (by rw [rotL_length]; omega)]
theorem reloc_swap (X : List Int) (a : Nat) (b : Bool) (ha : a + 1 < X.length) : reloc (mvSwap a) b X.length X = swapL X a := by
  apply List.ext_getElem?
  intro j
  by_cases hj : j < X.length
  · rw [swapL_get X a j ha]
    have hk : (if j = a then a + 1 else if j = a + 1 then a else j) < X.length := by split <;> (try split) <;> omega
    rw [List.getElem?_eq_getElem hk]
    refine (reloc_get (mv := mvSwap a) hk hj ?_ (fun k' h hne => ?_)).trans rfl
    · simp only [mvSwap]
      repeat' split
      all_goals omega
    · intro e
      apply hne
      simp only [mvSwap] at e
      revert e
      repeat' split
      all_goals omega
  · rw [List.getElem?_eq_none (by rw [reloc_length]; omega), List.getElem?_eq_none (by rw [swapL_length]; omega)]
theorem reloc_del (X : List Int) (a : Nat) (low : Int) (b : Bool) (ha : a < X.length) : reloc (mvDel low a) b (X.length - 1) X = delL X a low := by
  apply List.ext_getElem?
  intro j
  by_cases hj : j < X.length - 1
  · rw [delL_get X a j low ha]
    have hk : (if j < a then j else j + 1) < X.length := by split <;> omega
    rw [List.getElem?_eq_getElem hk]
    refine (reloc_get (mv := mvDel low a) hk hj ?_ (fun k' h hne => ?_)).trans rfl
    · simp only [mvDel]
      repeat' split
      all_goals omega
    · intro e
      apply hne
      simp only [mvDel] at e
      revert e
      repeat' split
      all_goals omega
  · rw [List.getElem?_eq_none (by rw [reloc_length]; omega), List.getElem?_eq_none (by rw [delL_length _ _ _ ha]; omega)]
theorem reloc_add (X : List Int) (a : Nat) (r : Int) (st b : Bool) (y : Int) (ha : a ≤ X.length) : (reloc (mvAdd r st a) b (X.length + 1) X).set a y = addL X a r (b != st) y := by
  apply List.ext_getElem?
  intro j
  by_cases hj : j < X.length + 1
  · rw [addL_get X a j r _ y ha]
    by_cases h2 : j = a
    · subst h2
      rw [if_pos rfl, List.getElem?_set_self (by rw [reloc_length]; omega)]
    · rw [if_neg h2, List.getElem?_set_ne (by omega)]
      have hk : (if j < a then j else j - 1) < X.length := by split <;> omega
      rw [List.getElem?_eq_getElem hk]
      refine (reloc_get (mv := mvAdd r st a) hk hj ?_ (fun k' h hne => ?_)).trans ?_
      · simp only [mvAdd]
        repeat' split
        all_goals omega
      · intro e
        apply hne
        simp only [mvAdd] at e
        revert e
        repeat' split
        all_goals omega
      · simp [mvAdd, upr]
  · rw [List.getElem?_eq_none (by rw [List.length_set, reloc_length]; omega), List.getElem?_eq_none (by rw [addL_length _ _ _ _ _ ha]; omega)]
end Go.Proofs.YteliflcbegcdlaaGreatDoor

namespace Go.Proofs.YteliflcbegcdlaaGreatDoor
set_option linter.unusedVariables false
open Go.RowKit
theorem apply_any (vx vo : Value) (X O : List Int) (k : Int) (rows : Bool) (a v : Int) (w : World) (hX : Ints w vx X) (hO : Ints w vo O) (hl : X.length ≤ 1000) (hl' : O.length ≤ 1000) :
    Calls Tryz.prog 50 #[.agg #[vx, vo], .agg #[.int .i64 k, .bool rows, .int .i64 a, .int .i64 v]] w (GRes w.heap.size w (applyM X O k rows a v)) := by
  cases hv : validB X O with
  | false => exact apply_invalid vx vo X O k rows a v w hX hO hl hl' hv
  | true =>
    by_cases hk : limAt k X.length = 0
    · exact apply_kind vx vo X O k rows a v w hX hO hl hl' hv hk
    · by_cases hr : a < 0 ∨ limAt k X.length ≤ a ∨ v < 0 ∨ limVar k X.length ≤ v
      · exact apply_range vx vo X O k rows a v w hX hO hl hl' hv hk hr
      · cases rows with
        | false => exact apply_cols vx vo X O k false a v w hX hO hl hl' hv hk hr
        | true => exact apply_rows vx vo X O k true a v w hX hO hl hl' hv hk hr
end Go.Proofs.YteliflcbegcdlaaGreatDoor

namespace Go.Proofs.YteliflcbegcdlaaGreatDoor
open Go.RowKit
set_option linter.unusedVariables false
/-- what Apply returns, said alike for errors and for grids -/
def GRd (B : Nat) (w : World) (r : Int × List Int × List Int) (e : Ending) (w' : World) : Prop :=
  Below B w w' ∧ ∃ A0 n0 c0 A1 n1 c1, e = .returned (.tuple #[.agg #[.slice A0 n0 c0, .slice A1 n1 c1], .int .i64 r.1]) ∧ Ints w' (.slice A0 n0 c0) r.2.1 ∧ Ints w' (.slice A1 n1 c1) r.2.2
theorem colsM_err (X O : List Int) (k : Int) (a v : Nat) (h : (colsM X O k a v).1 ≠ 0) : (colsM X O k a v).2 = ([], []) := by
  unfold colsM swapM desM staM rotM at *
  revert h
  repeat' split
  all_goals simp
theorem applyM_err (X O : List Int) (k : Int) (rows : Bool) (a v : Int) (h : (applyM X O k rows a v).1 ≠ 0) : (applyM X O k rows a v).2 = ([], []) := by
  unfold applyM at *
  split
  · rfl
  split
  · rfl
  split
  · rfl
  rename_i h1 h2 h3
  rw [if_neg h1, if_neg h2, if_neg h3] at h
  split
  · rename_i h4
    rw [if_pos h4] at h
    exact colsM_err _ _ _ _ _ h
  · rename_i h4
    rw [if_neg h4] at h
    split
    · rename_i h5
      rw [if_pos h5] at h
      simp at h
    · rfl
end Go.Proofs.YteliflcbegcdlaaGreatDoor

namespace Go.Proofs.YteliflcbegcdlaaGreatDoor
set_option linter.unusedVariables false
open Go.RowKit
/-- a slice that reads as xs in every world that has the blocks from B on as they are now -/
def IntsF (B : Nat) (w : World) (v : Value) (xs : List Int) : Prop := ∀ W : World, (∀ b, B ≤ b → b < w.heap.size → W.heap[b]? = w.heap[b]?) → Ints W v xs
theorem IntsF.ints {B : Nat} {w : World} {v : Value} {xs : List Int} (h : IntsF B w v xs) : Ints w v xs := h w (fun _ _ _ => rfl)
theorem IntsF.set2 {B : Nat} {w : World} {v : Value} {xs : List Int} (h : IntsF B w v xs) {r : Nat} (hr : r < B) (i j : Nat) (u u' : Value) : Ints ((w.setCell ⟨r, i, none⟩ u).setCell ⟨r, j, none⟩ u') v xs :=
  h _ (fun b hb _ => heap_set2 w r i j b u u' (by omega))
def GRf (B : Nat) (w : World) (r : Int × List Int × List Int) (e : Ending) (w' : World) : Prop :=
  Below B w w' ∧ ∃ A0 n0 c0 A1 n1 c1, e = .returned (.tuple #[.agg #[.slice A0 n0 c0, .slice A1 n1 c1], .int .i64 r.1]) ∧ IntsF B w' (.slice A0 n0 c0) r.2.1 ∧ IntsF B w' (.slice A1 n1 c1) r.2.2
theorem apply_rf (vx vo : Value) (X O : List Int) (k : Int) (rows : Bool) (a v : Int) (w : World) (hX : Ints w vx X) (hO : Ints w vo O) (hl : X.length ≤ 1000) (hl' : O.length ≤ 1000) :
    Calls Tryz.prog 50 #[.agg #[vx, vo], .agg #[.int .i64 k, .bool rows, .int .i64 a, .int .i64 v]] w (GRf w.heap.size w (applyM X O k rows a v)) := by
  refine (apply_any vx vo X O k rows a v w hX hO hl hl').mono ?_
  rintro e w' ⟨hb, u, rfl, h⟩
  refine ⟨hb, ?_⟩
  by_cases h0 : (applyM X O k rows a v).1 = 0
  · rw [if_pos h0] at h
    obtain ⟨gx, go, rfl, _, b1, b2, h1, h2⟩ := h
    refine ⟨_, _, _, _, _, _, rfl, fun W hW => Ints.of_arr (t := 3) ?_, fun W hW => Ints.of_arr (t := 3) ?_⟩
    · exact (hW gx b1 h1.lt).trans h1
    · exact (hW go b2 h2.lt).trans h2
  · rw [if_neg h0] at h
    subst h
    rw [applyM_err _ _ _ _ _ _ h0]
    exact ⟨_, _, _, _, _, _, rfl, fun W _ => Ints.nil _, fun W _ => Ints.nil _⟩
end Go.Proofs.YteliflcbegcdlaaGreatDoor
