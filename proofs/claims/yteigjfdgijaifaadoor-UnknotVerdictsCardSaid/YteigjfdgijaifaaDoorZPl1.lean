/- gridmove.columns: a move of columns. -/
/- Plain facts: rows stay in range under the moves of columns. -/
import Derived.Test.YteigjfdgijaifaaDoorProg
import Derived.Test.YteigjfdgijaifaaDoorZBase
import Derived.Test.YteigjfdgijaifaaDoorZReloc
import Derived.Test.YteigjfdgijaifaaDoorZPerm
import Derived.Test.YteigjfdgijaifaaDoorZTrans
import Derived.Test.YteigjfdgijaifaaDoorZComm
import Derived.Test.YteigjfdgijaifaaDoorZDes
import Derived.Test.YteigjfdgijaifaaDoorZSta
import Derived.KernelRfl
import Derived.Outline
namespace Go.Proofs.YteigjfdgijaifaaDoor
open Go.RowKit
set_option linter.unusedVariables false

/-- what a move function returns: an error number, and a new grid if it is 0 -/
def GRes (B : Nat) (w : World) (r : Int × List Int × List Int) (e : Ending) (w' : World) : Prop :=
  Below B w w' ∧ ∃ v, e = .returned (.tuple #[v, .int .i64 r.1]) ∧ if r.1 = 0 then NewGrid B w' v r.2.1 r.2.2 else v = .agg #[.slice none 0 0, .slice none 0 0]

theorem GRes.ok {B : Nat} {w w' : World} {X O : List Int} {v : Value} (hb : Below B w w') (h : NewGrid B w' v X O) : GRes B w (0, X, O) (.returned (.tuple #[v, .int .i64 0])) w' :=
  ⟨hb, v, rfl, by rw [if_pos rfl]; exact h⟩
theorem GRes.err {B : Nat} {w w' : World} {code : Int} (hc : code ≠ 0) (hb : Below B w w') : GRes B w (code, [], []) (.returned (.tuple #[.agg #[.slice none 0 0, .slice none 0 0], .int .i64 code])) w' :=
  ⟨hb, _, rfl, by rw [if_neg hc]⟩

def rotM (X O : List Int) : Int × List Int × List Int := (0, reloc (mvRot X.length) true X.length X, reloc (mvRot X.length) false X.length O)
def swapM (X O : List Int) (a : Nat) : Int × List Int × List Int :=
  if commB (X.getD a 0) (O.getD a 0) (X.getD (a + 1) 0) (O.getD (a + 1) 0) then (0, reloc (mvSwap a) true X.length X, reloc (mvSwap a) false X.length O) else (6, [], [])
def desM (X O : List Int) (a : Nat) : Int × List Int × List Int :=
  if desOk X O a (X.getD a 0) (O.getD a 0) then (0, reloc (mvDel (minG (X.getD a 0) (O.getD a 0)) a) true (X.length - 1) X, reloc (mvDel (minG (X.getD a 0) (O.getD a 0)) a) false (X.length - 1) O) else (6, [], [])
def staM (X O : List Int) (a v : Nat) : Int × List Int × List Int :=
  if X.length = 40 then (5, [], []) else (0, staX X a (v / 2) (decide (v % 2 = 0)), staO X.length O a (v / 2) (decide (v % 2 = 0)))
def colsM (X O : List Int) (k : Int) (a v : Nat) : Int × List Int × List Int :=
  if k = 1 then rotM X O else if k = 2 then swapM X O a else if k = 3 then desM X O a else staM X O a v

theorem mvRot_lt (n : Nat) (c r : Int) (b : Bool) (h : 2 ≤ n) : (mvRot n c r b).1 < n := Int.emod_lt_of_pos _ (by omega)
theorem mvSwap_lt (a k n : Nat) (r : Int) (b : Bool) (h : k < n) (h' : a + 1 < n) : (mvSwap a k r b).1 < n := by
  simp only [mvSwap]
  repeat' split
  all_goals omega

set_option maxHeartbeats 1000000 in
theorem columns_rot (vx vo : Value) (X O : List Int) (rows : Bool) (a v : Nat) (w : World) (hX : Ints w vx X) (hO : Ints w vo O) (hl : X.length ≤ 40) (hl2 : 2 ≤ X.length) (hlen : X.length = O.length) (rX : Rows X.length X) (rO : Rows X.length O) :
    Calls Tryd.prog 22 #[.agg #[vx, vo], .agg #[.int .i64 1, .bool rows, .int .i64 (a : Int), .int .i64 (v : Int)]] w (GRes w.heap.size w (rotM X O)) := by
  have HL := Lib.hid hlen
  clear hlen
  have hX0 := hX
  have hO0 := hO
  obtain ⟨A, c, rfl, hc, hh⟩ := hX
  obtain ⟨A', c', rfl, hc', hh'⟩ := hO
  clear hh hh'
  go_enter Tryd.func22, Tryd.ntmps22
  go_wp2_with fail
  have hW : Arr ((((w.alloc (.cells #[.slice A X.length c, .slice A' O.length c'] 26)).alloc (.cells #[.int .i64 1, .bool rows, .int .i64 (a : Int), .int .i64 (v : Int)] 37)).alloc (.cells #[.slice none 0 0, .slice none 0 0] 26)).alloc (.cells #[.int .i64 (X.length : Int)] 3)) w.heap.size 26 [.slice A X.length c, .slice A' O.length c'] ∧ Arr ((((w.alloc (.cells #[.slice A X.length c, .slice A' O.length c'] 26)).alloc (.cells #[.int .i64 1, .bool rows, .int .i64 (a : Int), .int .i64 (v : Int)] 37)).alloc (.cells #[.slice none 0 0, .slice none 0 0] 26)).alloc (.cells #[.int .i64 (X.length : Int)] 3)) (w.heap.size + 1) 37 [.int .i64 1, .bool rows, .int .i64 (a : Int), .int .i64 (v : Int)] ∧ Arr ((((w.alloc (.cells #[.slice A X.length c, .slice A' O.length c'] 26)).alloc (.cells #[.int .i64 1, .bool rows, .int .i64 (a : Int), .int .i64 (v : Int)] 37)).alloc (.cells #[.slice none 0 0, .slice none 0 0] 26)).alloc (.cells #[.int .i64 (X.length : Int)] 3)) (w.heap.size + 2) 26 [.slice none 0 0, .slice none 0 0] ∧
      Arr ((((w.alloc (.cells #[.slice A X.length c, .slice A' O.length c'] 26)).alloc (.cells #[.int .i64 1, .bool rows, .int .i64 (a : Int), .int .i64 (v : Int)] 37)).alloc (.cells #[.slice none 0 0, .slice none 0 0] 26)).alloc (.cells #[.int .i64 (X.length : Int)] 3)) (w.heap.size + 3) 3 [.int .i64 (X.length : Int)] ∧ Below w.heap.size w ((((w.alloc (.cells #[.slice A X.length c, .slice A' O.length c'] 26)).alloc (.cells #[.int .i64 1, .bool rows, .int .i64 (a : Int), .int .i64 (v : Int)] 37)).alloc (.cells #[.slice none 0 0, .slice none 0 0] 26)).alloc (.cells #[.int .i64 (X.length : Int)] 3)) ∧ ((((w.alloc (.cells #[.slice A X.length c, .slice A' O.length c'] 26)).alloc (.cells #[.int .i64 1, .bool rows, .int .i64 (a : Int), .int .i64 (v : Int)] 37)).alloc (.cells #[.slice none 0 0, .slice none 0 0] 26)).alloc (.cells #[.int .i64 (X.length : Int)] 3)).heap.size = w.heap.size + 4 :=
    ⟨(((Arr.new _ _ [_, _]).alloc _).alloc _).alloc _, ((Arr.newAt (w.alloc _) _ [_, _, _, _] _ (by simp)).alloc _).alloc _, (Arr.newAt ((w.alloc _).alloc _) _ [_, _] _ (by simp)).alloc _, Arr.newAt (((w.alloc _).alloc _).alloc _) _ [_] _ (by simp),
      ((((Below.refl _ _).alloc (Nat.le_refl _) _).alloc (by simp) _).alloc (by simp <;> omega) _).alloc (by simp <;> omega) _, by simp⟩
  generalize ((((w.alloc (.cells #[.slice A X.length c, .slice A' O.length c'] 26)).alloc (.cells #[.int .i64 1, .bool rows, .int .i64 (a : Int), .int .i64 (v : Int)] 37)).alloc (.cells #[.slice none 0 0, .slice none 0 0] 26)).alloc (.cells #[.int .i64 (X.length : Int)] 3)) = w4 at hW ⊢
  obtain ⟨q0, q1, q2, q3, hb4, hs4⟩ := hW
  refine (relocate_any _ _ X O X.length 40 #[.pointer (some ⟨w.heap.size + 3, 0, none⟩)] (mvRot X.length) _ Tryd.call40 (by omega) (hX0.below hb4) (hO0.below hb4) HL.out (by omega)
    (fun W hW k h => columns1_any k X[k] X.length true (w.heap.size + 3) W (by omega) (by omega) (by omega) (by omega) ((q3.below hW q3.lt).cell 0))
    (fun W hW k h => columns1_any k O[k] X.length false (w.heap.size + 3) W (by omega) (by have := HL.out; omega) (by omega) (by omega) ((q3.below hW q3.lt).cell 0))
    (fun k h => mvRot_lt _ _ _ _ hl2) (fun k h => mvRot_lt _ _ _ _ hl2)).mono ?_
  rintro e w1 ⟨v1, rfl, ⟨gx, go, rfl, e1, e2, e3, a1, a2⟩, hb⟩
  have hr := q2.below hb q2.lt
  have hbw := hb4.trans (hb.mono hb4.size)
  have hlt5 := q2.lt
  have s0 := hr.cell 0
  have s1 := hr.cell 1
  have s2 := hr.frozen 0
  have s3 := hr.frozen 1
  have hres := Lib.hid ((hr.set 0 (.slice (some ⟨gx, 0, none⟩) (reloc (mvRot X.length) true X.length X).length (reloc (mvRot X.length) true X.length X).length)).set 1 (.slice (some ⟨go, 0, none⟩) (reloc (mvRot X.length) false X.length O).length (reloc (mvRot X.length) false X.length O).length))
  go_wp2_with fail
  refine bodyPost_ret (v := .tuple #[.agg #[.slice (some ⟨gx, 0, none⟩) (reloc (mvRot X.length) true X.length X).length (reloc (mvRot X.length) true X.length X).length, .slice (some ⟨go, 0, none⟩) (reloc (mvRot X.length) false X.length O).length (reloc (mvRot X.length) false X.length O).length], .int .i64 0]) (results_ct Tryd.results22 _ _ (w.heap.size + 2) 26 _ _ rfl hres.out Tryd.underlying26 rfl info_grid) rfl ?_
  unfold rotM
  exact GRes.ok (bset2 (r := w.heap.size + 2) hbw (by omega)) ⟨gx, go, rfl, e1, by omega, by omega, a1.far2 (r := w.heap.size + 2) (by omega), a2.far2 (r := w.heap.size + 2) (by omega)⟩

set_option maxHeartbeats 1000000 in
theorem columns_swap (vx vo : Value) (X O : List Int) (rows : Bool) (a v : Nat) (w : World) (hX : Ints w vx X) (hO : Ints w vo O) (hl : X.length ≤ 40) (hl2 : 2 ≤ X.length) (hlen : X.length = O.length) (rX : Rows X.length X) (rO : Rows X.length O) (ha : a + 1 < X.length) :
    Calls Tryd.prog 22 #[.agg #[vx, vo], .agg #[.int .i64 2, .bool rows, .int .i64 (a : Int), .int .i64 (v : Int)]] w (GRes w.heap.size w (swapM X O a)) := by
  have hao : a + 1 < O.length := by omega
  have ha0 : a < X.length := by omega
  have ho0 : a < O.length := by omega
  have HL := Lib.hid hlen
  clear hlen
  have hX0 := hX
  have hO0 := hO
  obtain ⟨A, c, rfl, hc, hh⟩ := hX
  obtain ⟨A', c', rfl, hc', hh'⟩ := hO
  clear hh hh'
  go_enter Tryd.func22, Tryd.ntmps22
  go_wp2_with fail
  have hW : Arr ((((w.alloc (.cells #[.slice A X.length c, .slice A' O.length c'] 26)).alloc (.cells #[.int .i64 2, .bool rows, .int .i64 (a : Int), .int .i64 (v : Int)] 37)).alloc (.cells #[.slice none 0 0, .slice none 0 0] 26)).alloc (.cells #[.int .i64 (X.length : Int)] 3)) w.heap.size 26 [.slice A X.length c, .slice A' O.length c'] ∧ Arr ((((w.alloc (.cells #[.slice A X.length c, .slice A' O.length c'] 26)).alloc (.cells #[.int .i64 2, .bool rows, .int .i64 (a : Int), .int .i64 (v : Int)] 37)).alloc (.cells #[.slice none 0 0, .slice none 0 0] 26)).alloc (.cells #[.int .i64 (X.length : Int)] 3)) (w.heap.size + 1) 37 [.int .i64 2, .bool rows, .int .i64 (a : Int), .int .i64 (v : Int)] ∧ Arr ((((w.alloc (.cells #[.slice A X.length c, .slice A' O.length c'] 26)).alloc (.cells #[.int .i64 2, .bool rows, .int .i64 (a : Int), .int .i64 (v : Int)] 37)).alloc (.cells #[.slice none 0 0, .slice none 0 0] 26)).alloc (.cells #[.int .i64 (X.length : Int)] 3)) (w.heap.size + 2) 26 [.slice none 0 0, .slice none 0 0] ∧
      Arr ((((w.alloc (.cells #[.slice A X.length c, .slice A' O.length c'] 26)).alloc (.cells #[.int .i64 2, .bool rows, .int .i64 (a : Int), .int .i64 (v : Int)] 37)).alloc (.cells #[.slice none 0 0, .slice none 0 0] 26)).alloc (.cells #[.int .i64 (X.length : Int)] 3)) (w.heap.size + 3) 3 [.int .i64 (X.length : Int)] ∧ Below w.heap.size w ((((w.alloc (.cells #[.slice A X.length c, .slice A' O.length c'] 26)).alloc (.cells #[.int .i64 2, .bool rows, .int .i64 (a : Int), .int .i64 (v : Int)] 37)).alloc (.cells #[.slice none 0 0, .slice none 0 0] 26)).alloc (.cells #[.int .i64 (X.length : Int)] 3)) ∧ ((((w.alloc (.cells #[.slice A X.length c, .slice A' O.length c'] 26)).alloc (.cells #[.int .i64 2, .bool rows, .int .i64 (a : Int), .int .i64 (v : Int)] 37)).alloc (.cells #[.slice none 0 0, .slice none 0 0] 26)).alloc (.cells #[.int .i64 (X.length : Int)] 3)).heap.size = w.heap.size + 4 :=
    ⟨(((Arr.new _ _ [_, _]).alloc _).alloc _).alloc _, ((Arr.newAt (w.alloc _) _ [_, _, _, _] _ (by simp)).alloc _).alloc _, (Arr.newAt ((w.alloc _).alloc _) _ [_, _] _ (by simp)).alloc _, Arr.newAt (((w.alloc _).alloc _).alloc _) _ [_] _ (by simp),
      ((((Below.refl _ _).alloc (Nat.le_refl _) _).alloc (by simp) _).alloc (by simp <;> omega) _).alloc (by simp <;> omega) _, by simp⟩
  generalize ((((w.alloc (.cells #[.slice A X.length c, .slice A' O.length c'] 26)).alloc (.cells #[.int .i64 2, .bool rows, .int .i64 (a : Int), .int .i64 (v : Int)] 37)).alloc (.cells #[.slice none 0 0, .slice none 0 0] 26)).alloc (.cells #[.int .i64 (X.length : Int)] 3)) = w4 at hW ⊢
  obtain ⟨q0, q1, q2, q3, hb4, hs4⟩ := hW
  refine (commutes_any _ _ X O a _ (hX0.below hb4) (hO0.below hb4) (by omega) ha hao).mono ?_
  rintro e w5 ⟨rfl, hb5⟩
  have hg : Hid (commB X[a] O[a] X[a+1] O[a+1] = commB (X.getD a 0) (O.getD a 0) (X.getD (a + 1) 0) (O.getD (a + 1) 0)) := by
    show _ = _
    simp [List.getD_eq_getElem?_getD, ha, hao, ha0, ho0]
  have hbw5 := hb4.trans (hb5.mono hb4.size)
  have p0 := q0.below hb5 q0.lt
  have p1 := q1.below hb5 q1.lt
  have p2 := q2.below hb5 q2.lt
  have p3 := q3.below hb5 q3.lt
  have hsz5 := hb5.size
  generalize commB X[a] O[a] X[a+1] O[a+1] = R at *
  have y0 := p0.cell 0
  have y1 := p0.cell 1
  have y2 := p2.cell 0
  have y3 := p2.cell 1
  have y4 := p2.frozen 0
  have y5 := p2.frozen 1
  have y6 := p3.cell 0
  cases R with
  | false =>
    have hzr := Lib.hid ((p2.set 0 (.slice none 0 0)).set 1 (.slice none 0 0))
    have hfin := Lib.hid (show swapM X O a = (6, [], []) by simp only [swapM]; rw [← hg.out]; rfl)
    go_wp2_with fail
    refine bodyPost_ret (v := .tuple #[.agg #[.slice none 0 0, .slice none 0 0], .int .i64 6]) (results_ct Tryd.results22 _ _ (w.heap.size + 2) 26 _ _ rfl hzr.out Tryd.underlying26 rfl info_grid) rfl ?_
    rw [hfin.out]
    exact GRes.err (by decide) (bset2 (r := w.heap.size + 2) hbw5 (by omega))
  | true =>
    have hfin := Lib.hid (show swapM X O a = (0, (reloc (mvSwap a) true X.length X), (reloc (mvSwap a) false X.length O)) by simp only [swapM]; rw [← hg.out]; rfl)
    go_wp2_with fail
    refine (relocate_any _ _ X O X.length 42 #[.pointer (some ⟨w.heap.size + 1, 0, none⟩)] (mvSwap a) _ Tryd.call42 (by omega) (hX0.below hbw5) (hO0.below hbw5) HL.out (by omega)
      (fun W hW k h => columns2_any k X[k] a true (w.heap.size + 1) W (by omega) (by omega) (by omega) (by omega) ((p1.below hW p1.lt).cell 2))
      (fun W hW k h => columns2_any k O[k] a false (w.heap.size + 1) W (by omega) (by have := HL.out; omega) (by omega) (by omega) ((p1.below hW p1.lt).cell 2))
      (fun k h => mvSwap_lt _ _ _ _ _ h ha) (fun k h => mvSwap_lt _ _ _ _ _ (by have := HL.out; omega) ha)).mono ?_
    clear y0 y1 y2 y3 y4 y5 y6
    rintro e w1 ⟨v1, rfl, ⟨gx, go, rfl, e1, e2, e3, a1, a2⟩, hb⟩
    have hr := p2.below hb p2.lt
    have hbw := hbw5.trans (hb.mono hbw5.size)
    have hlt5 := p2.lt
    have s0 := hr.cell 0
    have s1 := hr.cell 1
    have s2 := hr.frozen 0
    have s3 := hr.frozen 1
    have hres := Lib.hid ((hr.set 0 (.slice (some ⟨gx, 0, none⟩) (reloc (mvSwap a) true X.length X).length (reloc (mvSwap a) true X.length X).length)).set 1 (.slice (some ⟨go, 0, none⟩) (reloc (mvSwap a) false X.length O).length (reloc (mvSwap a) false X.length O).length))
    go_wp2_with fail
    refine bodyPost_ret (v := .tuple #[.agg #[.slice (some ⟨gx, 0, none⟩) (reloc (mvSwap a) true X.length X).length (reloc (mvSwap a) true X.length X).length, .slice (some ⟨go, 0, none⟩) (reloc (mvSwap a) false X.length O).length (reloc (mvSwap a) false X.length O).length], .int .i64 0]) (results_ct Tryd.results22 _ _ (w.heap.size + 2) 26 _ _ rfl hres.out Tryd.underlying26 rfl info_grid) rfl ?_
    rw [hfin.out]
    exact GRes.ok (bset2 (r := w.heap.size + 2) hbw (by omega)) ⟨gx, go, rfl, e1, by omega, by omega, a1.far2 (r := w.heap.size + 2) (by omega), a2.far2 (r := w.heap.size + 2) (by omega)⟩

set_option maxHeartbeats 1000000 in
theorem columns_des (vx vo : Value) (X O : List Int) (rows : Bool) (a v : Nat) (w : World) (hX : Ints w vx X) (hO : Ints w vo O) (hl : X.length ≤ 40) (hl2 : 2 ≤ X.length) (hlen : X.length = O.length) (rX : Rows X.length X) (rO : Rows X.length O) (ha : a < X.length) :
    Calls Tryd.prog 22 #[.agg #[vx, vo], .agg #[.int .i64 3, .bool rows, .int .i64 (a : Int), .int .i64 (v : Int)]] w (GRes w.heap.size w (desM X O a)) := by
  have ho0 : a < O.length := by omega
  have HL := Lib.hid hlen
  clear hlen
  have hX0 := hX
  have hO0 := hO
  obtain ⟨A, c, rfl, hc, hh⟩ := hX
  obtain ⟨A', c', rfl, hc', hh'⟩ := hO
  clear hh hh'
  go_enter Tryd.func22, Tryd.ntmps22
  go_wp2_with fail
  have hW : Arr ((((w.alloc (.cells #[.slice A X.length c, .slice A' O.length c'] 26)).alloc (.cells #[.int .i64 3, .bool rows, .int .i64 (a : Int), .int .i64 (v : Int)] 37)).alloc (.cells #[.slice none 0 0, .slice none 0 0] 26)).alloc (.cells #[.int .i64 (X.length : Int)] 3)) w.heap.size 26 [.slice A X.length c, .slice A' O.length c'] ∧ Arr ((((w.alloc (.cells #[.slice A X.length c, .slice A' O.length c'] 26)).alloc (.cells #[.int .i64 3, .bool rows, .int .i64 (a : Int), .int .i64 (v : Int)] 37)).alloc (.cells #[.slice none 0 0, .slice none 0 0] 26)).alloc (.cells #[.int .i64 (X.length : Int)] 3)) (w.heap.size + 1) 37 [.int .i64 3, .bool rows, .int .i64 (a : Int), .int .i64 (v : Int)] ∧ Arr ((((w.alloc (.cells #[.slice A X.length c, .slice A' O.length c'] 26)).alloc (.cells #[.int .i64 3, .bool rows, .int .i64 (a : Int), .int .i64 (v : Int)] 37)).alloc (.cells #[.slice none 0 0, .slice none 0 0] 26)).alloc (.cells #[.int .i64 (X.length : Int)] 3)) (w.heap.size + 2) 26 [.slice none 0 0, .slice none 0 0] ∧
      Arr ((((w.alloc (.cells #[.slice A X.length c, .slice A' O.length c'] 26)).alloc (.cells #[.int .i64 3, .bool rows, .int .i64 (a : Int), .int .i64 (v : Int)] 37)).alloc (.cells #[.slice none 0 0, .slice none 0 0] 26)).alloc (.cells #[.int .i64 (X.length : Int)] 3)) (w.heap.size + 3) 3 [.int .i64 (X.length : Int)] ∧ Below w.heap.size w ((((w.alloc (.cells #[.slice A X.length c, .slice A' O.length c'] 26)).alloc (.cells #[.int .i64 3, .bool rows, .int .i64 (a : Int), .int .i64 (v : Int)] 37)).alloc (.cells #[.slice none 0 0, .slice none 0 0] 26)).alloc (.cells #[.int .i64 (X.length : Int)] 3)) ∧ ((((w.alloc (.cells #[.slice A X.length c, .slice A' O.length c'] 26)).alloc (.cells #[.int .i64 3, .bool rows, .int .i64 (a : Int), .int .i64 (v : Int)] 37)).alloc (.cells #[.slice none 0 0, .slice none 0 0] 26)).alloc (.cells #[.int .i64 (X.length : Int)] 3)).heap.size = w.heap.size + 4 :=
    ⟨(((Arr.new _ _ [_, _]).alloc _).alloc _).alloc _, ((Arr.newAt (w.alloc _) _ [_, _, _, _] _ (by simp)).alloc _).alloc _, (Arr.newAt ((w.alloc _).alloc _) _ [_, _] _ (by simp)).alloc _, Arr.newAt (((w.alloc _).alloc _).alloc _) _ [_] _ (by simp),
      ((((Below.refl _ _).alloc (Nat.le_refl _) _).alloc (by simp) _).alloc (by simp <;> omega) _).alloc (by simp <;> omega) _, by simp⟩
  generalize ((((w.alloc (.cells #[.slice A X.length c, .slice A' O.length c'] 26)).alloc (.cells #[.int .i64 3, .bool rows, .int .i64 (a : Int), .int .i64 (v : Int)] 37)).alloc (.cells #[.slice none 0 0, .slice none 0 0] 26)).alloc (.cells #[.int .i64 (X.length : Int)] 3)) = w4 at hW ⊢
  obtain ⟨q0, q1, q2, q3, hb4, hs4⟩ := hW
  refine (destabilize_any _ _ X O a _ (hX0.below hb4) (hO0.below hb4) (by omega) HL.out ha ho0 rX rO).mono ?_
  rintro e w1 ⟨hb, hres⟩
  have hgx : X.getD a 0 = X[a] := by simp [List.getD_eq_getElem?_getD, ha]
  have hgo : O.getD a 0 = O[a] := by simp [List.getD_eq_getElem?_getD, ho0]
  have hr := q2.below hb q2.lt
  have hbw := hb4.trans (hb.mono hb4.size)
  have hlt5 := q2.lt
  have s0 := hr.cell 0
  have s1 := hr.cell 1
  have s2 := hr.frozen 0
  have s3 := hr.frozen 1
  by_cases hd : desOk X O a X[a] O[a] = true
  · rw [if_pos hd] at hres
    have hfin := Lib.hid (show desM X O a = (0, (reloc (mvDel (minG X[a] O[a]) a) true (X.length - 1) X), (reloc (mvDel (minG X[a] O[a]) a) false (X.length - 1) O)) by simp only [desM, hgx, hgo]; rw [if_pos hd])
    clear hgx hgo hd
    obtain ⟨v1, rfl, gx, go, rfl, e1, e2, e3, a1, a2⟩ := hres
    have hres := Lib.hid ((hr.set 0 (.slice (some ⟨gx, 0, none⟩) (reloc (mvDel (minG X[a] O[a]) a) true (X.length - 1) X).length (reloc (mvDel (minG X[a] O[a]) a) true (X.length - 1) X).length)).set 1 (.slice (some ⟨go, 0, none⟩) (reloc (mvDel (minG X[a] O[a]) a) false (X.length - 1) O).length (reloc (mvDel (minG X[a] O[a]) a) false (X.length - 1) O).length))
    go_wp2_with fail
    refine bodyPost_ret (v := .tuple #[.agg #[.slice (some ⟨gx, 0, none⟩) (reloc (mvDel (minG X[a] O[a]) a) true (X.length - 1) X).length (reloc (mvDel (minG X[a] O[a]) a) true (X.length - 1) X).length, .slice (some ⟨go, 0, none⟩) (reloc (mvDel (minG X[a] O[a]) a) false (X.length - 1) O).length (reloc (mvDel (minG X[a] O[a]) a) false (X.length - 1) O).length], .int .i64 0]) (results_ct Tryd.results22 _ _ (w.heap.size + 2) 26 _ _ rfl hres.out Tryd.underlying26 rfl info_grid) rfl ?_
    rw [hfin.out]
    exact GRes.ok (bset2 (r := w.heap.size + 2) hbw (by omega)) ⟨gx, go, rfl, e1, by omega, by omega, a1.far2 (r := w.heap.size + 2) (by omega), a2.far2 (r := w.heap.size + 2) (by omega)⟩
  · rw [if_neg hd] at hres
    have hfin := Lib.hid (show desM X O a = (6, [], []) by simp only [desM, hgx, hgo]; rw [if_neg hd])
    clear hgx hgo hd
    subst hres
    have hzr := Lib.hid ((hr.set 0 (.slice none 0 0)).set 1 (.slice none 0 0))
    go_wp2_with fail
    refine bodyPost_ret (v := .tuple #[.agg #[.slice none 0 0, .slice none 0 0], .int .i64 6]) (results_ct Tryd.results22 _ _ (w.heap.size + 2) 26 _ _ rfl hzr.out Tryd.underlying26 rfl info_grid) rfl ?_
    rw [hfin.out]
    exact GRes.err (by decide) (bset2 (r := w.heap.size + 2) hbw (by omega))

set_option maxHeartbeats 1000000 in
theorem columns_sta (vx vo : Value) (X O : List Int) (rows : Bool) (a v : Nat) (w : World) (hX : Ints w vx X) (hO : Ints w vo O) (hl : X.length ≤ 40) (hl2 : 2 ≤ X.length) (hlen : X.length = O.length) (rX : Rows X.length X) (rO : Rows X.length O) (ha : a ≤ X.length) (hv : v < 2 * X.length) :
    Calls Tryd.prog 22 #[.agg #[vx, vo], .agg #[.int .i64 4, .bool rows, .int .i64 (a : Int), .int .i64 (v : Int)]] w (GRes w.heap.size w (staM X O a v)) := by
  by_cases h40 : X.length = 40
  · have hd40 : ((X.length : Int) == 40) = true := by simp [h40]
    have hfin := Lib.hid (show staM X O a v = (5, [], []) by simp only [staM]; rw [if_pos h40])
    clear h40
    have HL := Lib.hid hlen
    clear hlen
    have hX0 := hX
    have hO0 := hO
    obtain ⟨A, c, rfl, hc, hh⟩ := hX
    obtain ⟨A', c', rfl, hc', hh'⟩ := hO
    clear hh hh'
    go_enter Tryd.func22, Tryd.ntmps22
    go_wp2_with fail
    refine bodyPost_ret (v := .tuple #[.agg #[.slice none 0 0, .slice none 0 0], .int .i64 5]) (by simp [results, Tryd.results22, go_sem]) rfl ?_
    rw [hfin.out]
    exact GRes.err (by decide) (by repeat (first | exact Below.refl _ _ | refine Below.alloc ?_ (by simp <;> omega) _))
  · have hd40 : ((X.length : Int) == 40) = false := by simp; omega
    have hfin := Lib.hid (show staM X O a v = (0, staX X a (v / 2) (decide (v % 2 = 0)), staO X.length O a (v / 2) (decide (v % 2 = 0))) by simp only [staM]; rw [if_neg h40])
    clear h40
    have HL := Lib.hid hlen
    clear hlen
    have hX0 := hX
    have hO0 := hO
    obtain ⟨A, c, rfl, hc, hh⟩ := hX
    obtain ⟨A', c', rfl, hc', hh'⟩ := hO
    clear hh hh'
    go_enter Tryd.func22, Tryd.ntmps22
    go_wp2_with fail
    have hW : Arr ((((w.alloc (.cells #[.slice A X.length c, .slice A' O.length c'] 26)).alloc (.cells #[.int .i64 4, .bool rows, .int .i64 (a : Int), .int .i64 (v : Int)] 37)).alloc (.cells #[.slice none 0 0, .slice none 0 0] 26)).alloc (.cells #[.int .i64 (X.length : Int)] 3)) w.heap.size 26 [.slice A X.length c, .slice A' O.length c'] ∧ Arr ((((w.alloc (.cells #[.slice A X.length c, .slice A' O.length c'] 26)).alloc (.cells #[.int .i64 4, .bool rows, .int .i64 (a : Int), .int .i64 (v : Int)] 37)).alloc (.cells #[.slice none 0 0, .slice none 0 0] 26)).alloc (.cells #[.int .i64 (X.length : Int)] 3)) (w.heap.size + 1) 37 [.int .i64 4, .bool rows, .int .i64 (a : Int), .int .i64 (v : Int)] ∧ Arr ((((w.alloc (.cells #[.slice A X.length c, .slice A' O.length c'] 26)).alloc (.cells #[.int .i64 4, .bool rows, .int .i64 (a : Int), .int .i64 (v : Int)] 37)).alloc (.cells #[.slice none 0 0, .slice none 0 0] 26)).alloc (.cells #[.int .i64 (X.length : Int)] 3)) (w.heap.size + 2) 26 [.slice none 0 0, .slice none 0 0] ∧
        Arr ((((w.alloc (.cells #[.slice A X.length c, .slice A' O.length c'] 26)).alloc (.cells #[.int .i64 4, .bool rows, .int .i64 (a : Int), .int .i64 (v : Int)] 37)).alloc (.cells #[.slice none 0 0, .slice none 0 0] 26)).alloc (.cells #[.int .i64 (X.length : Int)] 3)) (w.heap.size + 3) 3 [.int .i64 (X.length : Int)] ∧ Below w.heap.size w ((((w.alloc (.cells #[.slice A X.length c, .slice A' O.length c'] 26)).alloc (.cells #[.int .i64 4, .bool rows, .int .i64 (a : Int), .int .i64 (v : Int)] 37)).alloc (.cells #[.slice none 0 0, .slice none 0 0] 26)).alloc (.cells #[.int .i64 (X.length : Int)] 3)) ∧ ((((w.alloc (.cells #[.slice A X.length c, .slice A' O.length c'] 26)).alloc (.cells #[.int .i64 4, .bool rows, .int .i64 (a : Int), .int .i64 (v : Int)] 37)).alloc (.cells #[.slice none 0 0, .slice none 0 0] 26)).alloc (.cells #[.int .i64 (X.length : Int)] 3)).heap.size = w.heap.size + 4 :=
      ⟨(((Arr.new _ _ [_, _]).alloc _).alloc _).alloc _, ((Arr.newAt (w.alloc _) _ [_, _, _, _] _ (by simp)).alloc _).alloc _, (Arr.newAt ((w.alloc _).alloc _) _ [_, _] _ (by simp)).alloc _, Arr.newAt (((w.alloc _).alloc _).alloc _) _ [_] _ (by simp),
        ((((Below.refl _ _).alloc (Nat.le_refl _) _).alloc (by simp) _).alloc (by simp <;> omega) _).alloc (by simp <;> omega) _, by simp⟩
    generalize ((((w.alloc (.cells #[.slice A X.length c, .slice A' O.length c'] 26)).alloc (.cells #[.int .i64 4, .bool rows, .int .i64 (a : Int), .int .i64 (v : Int)] 37)).alloc (.cells #[.slice none 0 0, .slice none 0 0] 26)).alloc (.cells #[.int .i64 (X.length : Int)] 3)) = w4 at hW ⊢
    obtain ⟨q0, q1, q2, q3, hb4, hs4⟩ := hW
    have ev : ((v : Int) / 2) = ((v / 2 : Nat) : Int) := by omega
    have eb : ((v : Int) % 2 == 0) = decide (v % 2 = 0) := by rw [Bool.eq_iff_iff]; simp; omega
    rw [ev, eb]
    clear ev eb
    refine (stabilize_any _ _ X O a (v / 2) (decide (v % 2 = 0)) _ (hX0.below hb4) (hO0.below hb4) (by omega) HL.out ha (by omega) rX rO).mono ?_
    generalize decide (v % 2 = 0) = st at *
    generalize v / 2 = rr at *
    rintro e w1 ⟨v1, rfl, ⟨gx, go, rfl, e1, e2, e3, a1, a2⟩, hb⟩
    have hr := q2.below hb q2.lt
    have hbw := hb4.trans (hb.mono hb4.size)
    have hlt5 := q2.lt
    have s0 := hr.cell 0
    have s1 := hr.cell 1
    have s2 := hr.frozen 0
    have s3 := hr.frozen 1
    have hres := Lib.hid ((hr.set 0 (.slice (some ⟨gx, 0, none⟩) (staX X a rr st).length (staX X a rr st).length)).set 1 (.slice (some ⟨go, 0, none⟩) (staO X.length O a rr st).length (staO X.length O a rr st).length))
    go_wp2_with fail
    refine bodyPost_ret (v := .tuple #[.agg #[.slice (some ⟨gx, 0, none⟩) (staX X a rr st).length (staX X a rr st).length, .slice (some ⟨go, 0, none⟩) (staO X.length O a rr st).length (staO X.length O a rr st).length], .int .i64 0]) (results_ct Tryd.results22 _ _ (w.heap.size + 2) 26 _ _ rfl hres.out Tryd.underlying26 rfl info_grid) rfl ?_
    rw [hfin.out]
    exact GRes.ok (bset2 (r := w.heap.size + 2) hbw (by omega)) ⟨gx, go, rfl, e1, by omega, by omega, a1.far2 (r := w.heap.size + 2) (by omega), a2.far2 (r := w.heap.size + 2) (by omega)⟩

theorem columns_any (vx vo : Value) (X O : List Int) (rows : Bool) (a v : Nat) (w : World) (hX : Ints w vx X) (hO : Ints w vo O) (hl : X.length ≤ 40) (hl2 : 2 ≤ X.length) (hlen : X.length = O.length) (rX : Rows X.length X) (rO : Rows X.length O) (k : Int) (hk : 1 ≤ k ∧ k ≤ 4) (ha : a < limAt k X.length) (hv : v < limVar k X.length) :
    Calls Tryd.prog 22 #[.agg #[vx, vo], .agg #[.int .i64 k, .bool rows, .int .i64 (a : Int), .int .i64 (v : Int)]] w (GRes w.heap.size w (colsM X O k a v)) := by
  obtain ⟨h1, h4⟩ := hk
  by_cases k1 : k = 1
  · subst k1
    exact columns_rot vx vo X O rows a v w hX hO hl hl2 hlen rX rO
  by_cases k2 : k = 2
  · subst k2
    have : limAt 2 X.length = X.length - 1 := rfl
    exact columns_swap vx vo X O rows a v w hX hO hl hl2 hlen rX rO (by omega)
  by_cases k3 : k = 3
  · subst k3
    have : limAt 3 X.length = X.length := rfl
    exact columns_des vx vo X O rows a v w hX hO hl hl2 hlen rX rO (by omega)
  obtain rfl : k = 4 := by omega
  have e1 : limAt 4 X.length = X.length + 1 := rfl
  have e2 : limVar 4 X.length = 2 * X.length := rfl
  exact columns_sta vx vo X O rows a v w hX hO hl hl2 hlen rX rO (by omega) (by omega)
end Go.Proofs.YteigjfdgijaifaaDoor

namespace Go.Proofs.YteigjfdgijaifaaDoor
set_option linter.unusedVariables false
open Go.RowKit

theorem relStep_rows {n : Nat} {mv : Int → Int → Bool → Int × Int} {b : Bool} {i : Nat} {x : Int} {acc : List Int} (h : Rows n acc) (hx : 0 ≤ (mv i x b).2 ∧ (mv i x b).2 < n) : Rows n (relStep mv b i x acc) := by
  unfold relStep
  split
  · intro y hy
    rcases List.mem_or_eq_of_mem_set hy with h1 | h1
    · exact h y h1
    · rw [h1]; exact hx
  · exact h
theorem relTo_rows {n : Nat} {mv : Int → Int → Bool → Int × Int} {b : Bool} (xs : List Int) : ∀ (i : Nat) (acc : List Int), Rows n acc → (∀ k (h : k < xs.length), 0 ≤ (mv (i + k : Nat) xs[k] b).2 ∧ (mv (i + k : Nat) xs[k] b).2 < n) → Rows n (relTo mv b i xs acc) := by
  induction xs with
  | nil => intro i acc h _; exact h
  | cons x xs ih =>
    intro i acc h hx
    rw [relTo]
    refine ih (i + 1) _ (relStep_rows h (by have := hx 0 (by simp); simpa using this)) (fun k hk => ?_)
    have := hx (k + 1) (by simpa using hk)
    rw [show i + 1 + k = i + (k + 1) from by omega]
    simpa using this
theorem reloc_rows {m n : Nat} {mv : Int → Int → Bool → Int × Int} {b : Bool} {xs : List Int} (hm : 0 < m) (hx : ∀ k (h : k < xs.length), 0 ≤ (mv k xs[k] b).2 ∧ (mv k xs[k] b).2 < m) : Rows m (reloc mv b n xs) := by
  refine relTo_rows xs 0 _ (fun y hy => ?_) (fun k hk => by have := hx k hk; simpa using this)
  have := List.eq_of_mem_replicate hy
  omega
theorem reloc_length (mv : Int → Int → Bool → Int × Int) (b : Bool) (n : Nat) (xs : List Int) : (reloc mv b n xs).length = n := by simp [reloc, relTo_length]

theorem Rows.set {n : Nat} {l : List Int} (h : Rows n l) (i : Nat) {x : Int} (hx : 0 ≤ x ∧ x < n) : Rows n (l.set i x) := by
  intro y hy
  rcases List.mem_or_eq_of_mem_set hy with h1 | h1
  · exact h y h1
  · rw [h1]; exact hx

theorem getD_rows {n : Nat} {l : List Int} (h : Rows n l) {a : Nat} (ha : a < l.length) : 0 ≤ l.getD a 0 ∧ l.getD a 0 < n := by
  have : l.getD a 0 = l[a] := by simp [List.getD_eq_getElem?_getD, ha]
  rw [this]; exact h.get ha

/-- a move of columns that goes through gives lists of one length, with their rows in range -/
theorem colsM_rows {X O : List Int} {k : Int} {a v : Nat} (hk : 1 ≤ k ∧ k ≤ 4) (ha : a < limAt k X.length) (hv : v < limVar k X.length) (hl : 2 ≤ X.length) (hlen : X.length = O.length) (rX : Rows X.length X) (rO : Rows X.length O)
    (h0 : (colsM X O k a v).1 = 0) : ∃ m, (colsM X O k a v).2.1.length = m ∧ (colsM X O k a v).2.2.length = m ∧ 1 ≤ m ∧ m ≤ X.length + 1 ∧ Rows m (colsM X O k a v).2.1 ∧ Rows m (colsM X O k a v).2.2 := by
  obtain ⟨h1, h4⟩ := hk
  unfold colsM at h0 ⊢
  by_cases k1 : k = 1
  · simp only [if_pos k1]
    refine ⟨X.length, reloc_length _ _ _ _, reloc_length _ _ _ _, by omega, by omega, reloc_rows (by omega) (fun k hk => rX.get hk), reloc_rows (by omega) (fun k hk => rO.get hk)⟩
  simp only [if_neg k1] at h0 ⊢
  by_cases k2 : k = 2
  · simp only [if_pos k2] at h0 ⊢
    unfold swapM at h0 ⊢
    split at h0
    · rename_i hc
      simp only [if_pos hc]
      exact ⟨X.length, reloc_length _ _ _ _, reloc_length _ _ _ _, by omega, by omega, reloc_rows (by omega) (fun k hk => rX.get hk), reloc_rows (by omega) (fun k hk => rO.get hk)⟩
    · simp at h0
  simp only [if_neg k2] at h0 ⊢
  by_cases k3 : k = 3
  · simp only [if_pos k3] at h0 ⊢
    have ha' : a < X.length := by rw [k3] at ha; simp only [limAt] at ha; simpa using ha
    unfold desM at h0 ⊢
    split at h0
    · rename_i hc
      simp only [if_pos hc]
      have gx := getD_rows rX ha'
      have go := getD_rows rO (by omega : a < O.length)
      generalize X.getD a 0 = x at *
      generalize O.getD a 0 = o at *
      have hd : 3 ≤ X.length ∧ maxG x o = minG x o + 1 := by
        simp only [desOk, Bool.and_eq_true, decide_eq_true_eq] at hc
        exact ⟨hc.1.1, hc.1.2⟩
      have hlow : minG x o + 1 < X.length := by rw [← hd.2]; unfold maxG; split <;> omega
      have hlow0 : 0 ≤ minG x o := by unfold minG; split <;> omega
      refine ⟨X.length - 1, reloc_length _ _ _ _, reloc_length _ _ _ _, by omega, by omega, reloc_rows (by omega) (fun k hk => ?_), reloc_rows (by omega) (fun k hk => ?_)⟩
      · have := rX.get hk
        simp only [mvDel]; split <;> omega
      · have := rO.get hk
        simp only [mvDel]; split <;> omega
    · simp at h0
  simp only [if_neg k3] at h0 ⊢
  have k4 : k = 4 := by omega
  subst k4
  have ha' : a < X.length + 1 := by simp only [limAt] at ha; simp at ha; omega
  have hv' : v < 2 * X.length := by simp only [limVar] at hv; simp at hv; omega
  unfold staM at h0 ⊢
  split at h0
  · simp at h0
  · rename_i hc
    simp only [if_neg hc]
    generalize decide (v % 2 = 0) = st
    have hr : v / 2 < X.length := by omega
    generalize v / 2 = r at *
    refine ⟨X.length + 1, by simp [staX, reloc_length], by simp [staO, reloc_length], by omega, by omega, Rows.set (reloc_rows (by omega) (fun k hk => ?_)) _ ?_, Rows.set (reloc_rows (by omega) (fun k hk => ?_)) _ ?_⟩
    · have := rX.get hk
      simp only [mvAdd]; split <;> omega
    · split <;> omega
    · have := rO.get hk
      simp only [mvAdd]; split <;> omega
    · split <;> omega

theorem permFrom_rows {n : Nat} : ∀ (l s : List Int), permFrom n s l = true → Rows n l := by
  intro l
  induction l with
  | nil => intro s _ x hx; simp at hx
  | cons y ys ih =>
    intro s h x hx
    simp only [permFrom, Bool.and_eq_true, decide_eq_true_eq] at h
    rcases List.mem_cons.1 hx with rfl | hx
    · exact ⟨h.1.1.1, h.1.1.2⟩
    · exact ih _ h.2 x hx
theorem validB_facts {X O : List Int} (h : validB X O = true) : 2 ≤ X.length ∧ X.length ≤ 40 ∧ X.length = O.length ∧ Rows X.length X ∧ Rows X.length O := by
  simp only [validB, Bool.and_eq_true, decide_eq_true_eq, permB] at h
  obtain ⟨⟨⟨⟨⟨h1, h2⟩, h3⟩, _⟩, h5⟩, h6⟩ := h
  exact ⟨h1, h2, h3.symm, permFrom_rows _ _ h5, by rw [← h3]; exact permFrom_rows _ _ h6⟩
end Go.Proofs.YteigjfdgijaifaaDoor
