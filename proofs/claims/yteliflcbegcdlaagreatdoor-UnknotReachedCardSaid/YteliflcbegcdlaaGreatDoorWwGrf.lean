/- gridmove.relocate: the marks of a grid are laid where a function says. -/
/- A region that draws its order, by facts: one obligation for each operation, whatever the order. -/
/- A region that draws its order, whose operations leave what was there as it is (they may make memory and call): each operation is walked once; of each result a fact that later growth keeps. -/
/- XPhi for a region with guards ('&&', '||') that are all met: each operation is walked once; of a guarded one it is shown that its guard holds. -/
/- A region that draws its order, whose operations read or call quietly, but for a store at its end: each operation is walked once, by a table of values. -/
/- A region that draws its order: each operation is walked once; a relation T between worlds tells what the operations keep; guards are met or not; with or without a store at its end. -/
/- The end of a region that draws its order, where one slot alone is read afterwards. -/
/- Slices of elements of some cells that the call owns, and a region that draws its order and builds one by appends, a literal beside them. -/
/- A region that draws its order, reads, appends one element to an own slice and stores the slice back. -/
/- Maps with string keys, told by a list of their entries: look-up, and a new entry in two steps (mapEntry, entryStore). -/
/- Sums of integers (plain). -/
/- Determinants: expansion along the first column; rows are functions (plain). -/
/- Determinants: bounds, triangles, combinations of rows (plain). -/
/- The determinant of the transpose (plain). -/
/- Maps from strings to bool that hold true alone: sets of texts. -/
/- Slices of elements of some cells: a part of a slice reads as the part of the list. -/
/- Classes of a relation, and how passes of least labels find them. -/
import Derived.Test.YteliflcbegcdlaaGreatDoorProg
import Derived.Test.YteliflcbegcdlaaGreatDoorWwBase
import Derived.KernelRfl
import Derived.Outline
import Derived.Deep.DeepCutAuto
import Derived.Laws.ResultCell
import Derived.Orders
import Derived.Test.YteliflcbegcdlaaGreatDoorWwBase2
import Derived.Deep.Draws
import Derived.Maps.AppendAt
import Derived.Deep.AppendLies
import Derived.OwnWalk
import Derived.MapKept
import Derived.Below
namespace Go.Proofs.YteliflcbegcdlaaGreatDoor
set_option linter.unusedVariables false
open Go.RowKit
theorem info_int : (Tryz.prog.info? 3).map (fun i => (i.zero, i.size, i.bytes)) = some (some (.int .i64 0), 1, 8) := by kernel_rfl
theorem info_grid : (Tryz.prog.info? 24).map (·.size) = some 2 := by kernel_rfl
/-- the row of a list of integers -/
def ints (xs : List Int) : List Value := xs.map (Value.int .i64)
theorem ints_get (xs : List Int) {i : Nat} (h : i < xs.length) : (ints xs)[i]? = some (.int .i64 xs[i]) := by simp [ints, h]
theorem ints_set (xs : List Int) (i : Nat) (x : Int) : (ints xs).set i (.int .i64 x) = ints (xs.set i x) := by simp [ints, List.map_set]
theorem ints_zero (n : Nat) : ints (List.replicate n 0) = List.replicate n (.int .i64 0) := by simp [ints]
def relStep (mv : Int → Int → Bool → Int × Int) (b : Bool) (i : Nat) (x : Int) (acc : List Int) : List Int :=
  if 0 ≤ (mv i x b).1 then acc.set (mv i x b).1.toNat (mv i x b).2 else acc
def relTo (mv : Int → Int → Bool → Int × Int) (b : Bool) : Nat → List Int → List Int → List Int
  | _, [], acc => acc
  | i, x :: xs, acc => relTo mv b (i + 1) xs (relStep mv b i x acc)
theorem relStep_length (mv : Int → Int → Bool → Int × Int) (b : Bool) (i : Nat) (x : Int) (acc : List Int) : (relStep mv b i x acc).length = acc.length := by
  unfold relStep; split <;> simp
theorem relTo_length (mv : Int → Int → Bool → Int × Int) (b : Bool) (i : Nat) (xs acc : List Int) : (relTo mv b i xs acc).length = acc.length := by
  induction xs generalizing i acc with
  | nil => rfl
  | cons x xs ih => rw [relTo, ih, relStep_length]
theorem relTo_drop (mv : Int → Int → Bool → Int × Int) (b : Bool) (xs acc : List Int) {k : Nat} (h : k < xs.length) :
    relTo mv b k (xs.drop k) acc = relTo mv b (k + 1) (xs.drop (k + 1)) (relStep mv b k xs[k] acc) := by
  rw [List.drop_eq_getElem_cons h, relTo]
def reloc (mv : Int → Int → Bool → Int × Int) (b : Bool) (n : Nat) (xs : List Int) : List Int := relTo mv b 0 xs (List.replicate n 0)
/-- the value v is a new grid: two rows of its own, from block B on -/
def NewGrid (B : Nat) (w : World) (v : Value) (X O : List Int) : Prop :=
  ∃ gx go, v = .agg #[.slice (some ⟨gx, 0, none⟩) X.length X.length, .slice (some ⟨go, 0, none⟩) O.length O.length] ∧ gx ≠ go ∧ B ≤ gx ∧ B ≤ go ∧
    Arr w gx 3 (ints X) ∧ Arr w go 3 (ints O)
def Mid3 (B : Nat) (w : World) (g gx go : Nat) (vx vo : Value) (X O : List Int) : Prop :=
  gx ≠ go ∧ g ≠ gx ∧ g ≠ go ∧ B + 2 ≤ g ∧ B + 2 ≤ gx ∧ B + 2 ≤ go ∧
    Arr w g 24 [.slice (some ⟨gx, 0, none⟩) X.length X.length, .slice (some ⟨go, 0, none⟩) O.length O.length] ∧
    Arr w gx 3 (ints X) ∧ Arr w go 3 (ints O) ∧ Arr w B 24 [vx, vo] ∧ (∃ a b, Arr w (B + 1) 24 [a, b])
def Mid (B : Nat) (w : World) (s7 s14 s16 : Value) (vx vo : Value) (X O : List Int) : Prop :=
  ∃ g gx go, s7 = .pointer (some ⟨g, 0, none⟩) ∧ s14 = .slice (some ⟨gx, 0, none⟩) X.length X.length ∧ s16 = .slice (some ⟨go, 0, none⟩) O.length O.length ∧ Mid3 B w g gx go vx vo X O
theorem Mid3.setX {B : Nat} {w : World} {g gx go : Nat} {vx vo : Value} {X O : List Int} (h : Mid3 B w g gx go vx vo X O) (i : Nat) (x : Int) :
    Mid3 B (w.setCell ⟨gx, i, none⟩ (.int .i64 x)) g gx go vx vo (X.set i x) O := by
  obtain ⟨e1, e2, e3, e4, e5, e6, h1, h2, h3, h4, a, b, h5⟩ := h
  refine ⟨e1, e2, e3, e4, e5, e6, ?_, ?_, h3.far (fun h => e1 h.symm) _, h4.far (by show B ≠ gx; omega) _, a, b, h5.far (by show B + 1 ≠ gx; omega) _⟩
  · rw [List.length_set]; exact h1.far e2 _
  · rw [← ints_set]; exact h2.set _ _
theorem Mid3.setO {B : Nat} {w : World} {g gx go : Nat} {vx vo : Value} {X O : List Int} (h : Mid3 B w g gx go vx vo X O) (i : Nat) (x : Int) :
    Mid3 B (w.setCell ⟨go, i, none⟩ (.int .i64 x)) g gx go vx vo X (O.set i x) := by
  obtain ⟨e1, e2, e3, e4, e5, e6, h1, h2, h3, h4, a, b, h5⟩ := h
  refine ⟨e1, e2, e3, e4, e5, e6, ?_, h2.far e1 _, ?_, h4.far (by show B ≠ go; omega) _, a, b, h5.far (by show B + 1 ≠ go; omega) _⟩
  · rw [List.length_set]; exact h1.far e3 _
  · rw [← ints_set]; exact h3.set _ _
theorem mid_of {g gx go : Nat} (w wx : World) (vx vo : Value) (n : Nat)
    (h0 : wx.heap[w.heap.size]? = some (.cells #[vx, vo] 24 (0, 0))) (h1 : wx.heap[w.heap.size + 1]? = some (.cells #[.slice none 0 0, .slice none 0 0] 24 (0, 0)))
    (hg : wx.heap[g]? = some (.cells #[.slice (some ⟨gx, 0, none⟩) n n, .slice (some ⟨go, 0, none⟩) n n] 24 (0, 0)))
    (hx : wx.heap[gx]? = some (.cells (rowOf (List.replicate n (Value.int IntKind.i64 0))) 3 (0, 0))) (ho : wx.heap[go]? = some (.cells (rowOf (List.replicate n (Value.int IntKind.i64 0))) 3 (0, 0)))
    (e1 : gx ≠ go) (e2 : g ≠ gx) (e3 : g ≠ go) (e4 : w.heap.size + 2 ≤ g) (e5 : w.heap.size + 2 ≤ gx) (e6 : w.heap.size + 2 ≤ go) :
    Mid w.heap.size wx (.pointer (some ⟨g, 0, none⟩)) (.slice (some ⟨gx, 0, none⟩) n n) (.slice (some ⟨go, 0, none⟩) n n) vx vo (List.replicate n 0) (List.replicate n 0) := by
  refine ⟨g, gx, go, rfl, by rw [List.length_replicate], by rw [List.length_replicate], e1, e2, e3, e4, e5, e6, ?_, ?_, ?_, h0, _, _, h1⟩
  · simp only [List.length_replicate]; exact hg
  · rw [ints_zero]; exact hx
  · rw [ints_zero]; exact ho
set_option maxHeartbeats 1000000 in
theorem relocate_any (vx vo : Value) (X O : List Int) (n : Nat) (f : FuncId) (cap : Array Value) (mv : Int → Int → Bool → Int × Int) (w : World)
    (hcall : ∀ args W, Sem.run Tryz.prog (callFunc f args) W = .ok (.enter f args) W) (hxl : X.length ≤ 1000)
    (hX : Ints w vx X) (hO : Ints w vo O) (hlen : X.length = O.length) (hn : n ≤ 1000)
    (hfX : ∀ W, Below w.heap.size w W → ∀ (k : Nat) (h : k < X.length), Calls Tryz.prog f (#[.int .i64 k, .int .i64 X[k], .bool true] ++ cap) W fun e W' => e = .returned (.tuple #[.int .i64 (mv k X[k] true).1, .int .i64 (mv k X[k] true).2]) ∧ W = W')
    (hfO : ∀ W, Below w.heap.size w W → ∀ (k : Nat) (h : k < O.length), Calls Tryz.prog f (#[.int .i64 k, .int .i64 O[k], .bool false] ++ cap) W fun e W' => e = .returned (.tuple #[.int .i64 (mv k O[k] false).1, .int .i64 (mv k O[k] false).2]) ∧ W = W')
    (htX : ∀ (k : Nat) (h : k < X.length), (mv k X[k] true).1 < n) (htO : ∀ (k : Nat) (h : k < O.length), (mv k O[k] false).1 < n) :
    Calls Tryz.prog 90 #[.agg #[vx, vo], .int .i64 n, .func (.func f) #[] cap] w fun e w' => ∃ v, e = .returned v ∧ NewGrid w.heap.size w' v (reloc mv true n X) (reloc mv false n O) ∧ Below w.heap.size w w' := by
  obtain ⟨i0, hi0, hz0, hz1, hz2⟩ := info_parts info_int
  have hmk := fun W => run_make_one (P := Tryz.prog) 22 3 i0 (.int .i64 0) Tryz.underlying22 hi0 hz0 hz1 rfl (by rw [hz2]; decide) n (by omega) W
  clear hi0 hz0 hz1 hz2
  have HL := Lib.hid hlen
  clear hlen
  have HX := Lib.hid hfX
  have HO := Lib.hid hfO
  have TX := Lib.hid htX
  have TO := Lib.hid htO
  clear hfX hfO htX htO
  have hX0 := hX
  have hO0 := hO
  obtain ⟨A, c, rfl, hc, hh⟩ := hX
  obtain ⟨A', c', rfl, hc', hh'⟩ := hO
  clear hh hh'
  go_enter Tryz.func90, Tryz.ntmps90
  go_upto_region 1 with fail
  go_cut [7, 14, 16] (fun s7 s14 s16 wx => Mid w.heap.size wx s7 s14 s16 (.slice A X.length c) (.slice A' O.length c') (List.replicate n 0) (List.replicate n 0) ∧ Below w.heap.size w wx)
  case first =>
    go_region
    all_goals
      go_wp2_with fail
      go_meet
      refine ⟨?_, ?_⟩
      rotate_left
      · repeat (first | exact Below.refl _ _ | refine Below.alloc ?_ (by simp <;> omega) _ | refine Below.drew ?_)
      exact mid_of w _ _ _ n (by simp only [heap_push, heap_drew, Array.getElem?_push, Array.size_push]; repeat (first | rw [if_pos trivial] | rw [if_neg (by omega)])) (by simp only [heap_push, heap_drew, Array.getElem?_push, Array.size_push]; repeat (first | rw [if_pos trivial] | rw [if_neg (by omega)])) (by simp only [heap_push, heap_drew, Array.getElem?_push, Array.size_push]; repeat (first | rw [if_pos trivial] | rw [if_neg (by omega)])) (by simp only [heap_push, heap_drew, Array.getElem?_push, Array.size_push]; repeat (first | rw [if_pos trivial] | rw [if_neg (by omega)])) (by simp only [heap_push, heap_drew, Array.getElem?_push, Array.size_push]; repeat (first | rw [if_pos trivial] | rw [if_neg (by omega)])) (by omega) (by omega) (by omega) (by omega) (by omega) (by omega)
  case rest =>
    obtain ⟨⟨g, gx, go, rfl, e14, e16, hm⟩, hb⟩ := hcut
    clear e14 e16
    have hbx := hm.2.2.2.2.2.2.2.2.2.1.cell 0
    go_wp2_with fail
    clear hbx
    go_loopw [21] (fun i wr => ∃ (k : Nat) (aX aO : List Int), k ≤ X.length ∧ i = .int .i64 k ∧ Mid3 w.heap.size wr g gx go (.slice A X.length c) (.slice A' O.length c') aX aO ∧ Below w.heap.size w wr ∧
      Hid (aX.length = n ∧ aO.length = n ∧ reloc mv true n X = relTo mv true k (X.drop k) aX ∧ reloc mv false n O = relTo mv false k (O.drop k) aO)) (fun i _ => X.length - (intOf i).toNat)
    case atStart =>
      exact ⟨0, _, _, Nat.zero_le _, rfl, hm, hb, by simp, by simp, rfl, rfl⟩
    case round =>
      obtain ⟨k, aX, aO, hk, rfl, hm', hb', H⟩ := hrel
      clear hb hm
      by_cases hlt : k < X.length
      · obtain ⟨b, o, rfl, hbl, hcell⟩ := hX0.at_ hlt
        have hltO : k < O.length := by have := HL.out; omega
        obtain ⟨b', o', rfl, hbl', hcell'⟩ := hO0.at_ hltO
        have hcX := (hb'.cell (p := ⟨b, o + k, none⟩) hbl).trans hcell
        have hb0 := hm'.2.2.2.2.2.2.2.2.2.1.cell 0
        have hb1 := hm'.2.2.2.2.2.2.2.2.2.1.cell 1
        clear hcell
        have hs1 := TX.out k hlt
        have hs2 := TO.out k hltO
        have hS1 : Hid (relStep mv true k X[k] aX = if 0 ≤ (mv k X[k] true).1 then aX.set (mv k X[k] true).1.toNat (mv k X[k] true).2 else aX) := rfl
        have hS2 : Hid (relStep mv false k O[k] aO = if 0 ≤ (mv k O[k] false).1 then aO.set (mv k O[k] false).1.toNat (mv k O[k] false).2 else aO) := rfl
        have F1 := Lib.hid (HX.out wr hb' k hlt)
        have F2 := Lib.hid (fun W hW => HO.out W hW k hltO)
        rw [relTo_drop mv true X aX hlt, relTo_drop mv false O aO hltO] at H
        generalize relStep mv true k X[k] aX = aX' at *
        generalize relStep mv false k O[k] aO = aO' at *
        generalize mv k X[k] true = p1 at *
        generalize mv k O[k] false = p2 at *
        generalize X[k] = x at *
        generalize O[k] = y at *
        clear HX HO TX TO
        obtain ⟨c1, r1⟩ := p1
        obtain ⟨c2, r2⟩ := p2
        simp only at hs1 hs2 hS1 hS2 F1 F2
        by_cases h1 : 0 ≤ c1
        · obtain ⟨m1, rfl⟩ := Int.eq_ofNat_of_zero_le h1
          have hg0 := hm'.2.2.2.2.2.2.1.cell 0
          have hn1 : m1 < aX.length := by have := H.out.1; omega
          have hst := (hm'.2.2.2.2.2.2.2.1.cell m1).trans (ints_get aX hn1)
          have hfz := hm'.2.2.2.2.2.2.2.1.frozen m1
          go_wp2_with fail
          refine F1.out.mono ?_
          rintro e w' ⟨rfl, rfl⟩
          have hm2 := hm'.setX m1 r1
          have hb2 := hb'.setCell (p := ⟨gx, m1, none⟩) (by have := hm'.2.2.2.2.1; show w.heap.size ≤ gx; omega) (.int .i64 r1)
          have hcO := (hb2.cell (p := ⟨b', o' + k, none⟩) hbl').trans hcell'
          clear hb0 hb1
          have hb1 := hm2.2.2.2.2.2.2.2.2.2.1.cell 1
          have hE : aX' = aX.set m1 r1 := by rw [hS1.out, if_pos h1]; rfl
          subst hE
          by_cases h2 : 0 ≤ c2
          · obtain ⟨m2, rfl⟩ := Int.eq_ofNat_of_zero_le h2
            have hg1 := hm2.2.2.2.2.2.2.1.cell 1
            have hn2 : m2 < aO.length := by have := H.out.2.1; omega
            have hst2 := (hm2.2.2.2.2.2.2.2.2.1.cell m2).trans (ints_get aO hn2)
            have hfz2 := hm2.2.2.2.2.2.2.2.2.1.frozen m2
            have hE : aO' = aO.set m2 r2 := by rw [hS2.out, if_pos h2]; rfl
            subst hE
            go_wp2_with fail
            refine (F2.out _ hb2).mono ?_
            rintro e w' ⟨rfl, rfl⟩
            go_wp2_with fail
            go_roundw
            case rel => exact ⟨k + 1, _, _, by omega, by go_num, hm2.setO m2 r2, hb2.setCell (p := ⟨go, m2, none⟩) (by have := hm'.2.2.2.2.2.1; show w.heap.size ≤ go; omega) _, by simp [H.out.1], by simp [H.out.2.1], H.out.2.2.1, H.out.2.2.2⟩
            case measure => simp [intOf]; omega
          · have hE : aO' = aO := by rw [hS2.out, if_neg (by omega)]
            subst hE
            go_wp2_with fail
            refine (F2.out _ hb2).mono ?_
            rintro e w' ⟨rfl, rfl⟩
            go_wp2_with fail
            go_roundw
            case rel => exact ⟨k + 1, _, _, by omega, by go_num, hm2, hb2, by simp [H.out.1], by simp [H.out.2.1], H.out.2.2.1, H.out.2.2.2⟩
            case measure => simp [intOf]; omega
        · go_wp2_with fail
          refine F1.out.mono ?_
          rintro e w' ⟨rfl, rfl⟩
          have hcO := (hb'.cell (p := ⟨b', o' + k, none⟩) hbl').trans hcell'
          clear hb0 hb1
          have hb1 := hm'.2.2.2.2.2.2.2.2.2.1.cell 1
          have hE : aX' = aX := by rw [hS1.out, if_neg (by omega)]
          subst hE
          by_cases h2 : 0 ≤ c2
          · obtain ⟨m2, rfl⟩ := Int.eq_ofNat_of_zero_le h2
            have hg1 := hm'.2.2.2.2.2.2.1.cell 1
            have hn2 : m2 < aO.length := by have := H.out.2.1; omega
            have hst2 := (hm'.2.2.2.2.2.2.2.2.1.cell m2).trans (ints_get aO hn2)
            have hfz2 := hm'.2.2.2.2.2.2.2.2.1.frozen m2
            have hE : aO' = aO.set m2 r2 := by rw [hS2.out, if_pos h2]; rfl
            subst hE
            go_wp2_with fail
            refine (F2.out _ hb').mono ?_
            rintro e w' ⟨rfl, rfl⟩
            go_wp2_with fail
            go_roundw
            case rel => exact ⟨k + 1, _, _, by omega, by go_num, hm'.setO m2 r2, hb'.setCell (p := ⟨go, m2, none⟩) (by have := hm'.2.2.2.2.2.1; show w.heap.size ≤ go; omega) _, by simp [H.out.1], by simp [H.out.2.1], H.out.2.2.1, H.out.2.2.2⟩
            case measure => simp [intOf]; omega
          · have hE : aO' = aO := by rw [hS2.out, if_neg (by omega)]
            subst hE
            go_wp2_with fail
            refine (F2.out _ hb').mono ?_
            rintro e w' ⟨rfl, rfl⟩
            go_wp2_with fail
            go_roundw
            case rel => exact ⟨k + 1, _, _, by omega, by go_num, hm', hb', by simp [H.out.1], by simp [H.out.2.1], H.out.2.2.1, H.out.2.2.2⟩
            case measure => simp [intOf]; omega
      · obtain rfl : k = X.length := by omega
        obtain ⟨hl1, hl2, hr1, hr2⟩ := H.out
        rw [List.drop_length] at hr1
        rw [HL.out, List.drop_length] at hr2
        have hg0 := hm'.2.2.2.2.2.2.1.cell 0
        have hg1 := hm'.2.2.2.2.2.2.1.cell 1
        obtain ⟨e1, e2, e3, e4, e5, e6, q1, q2, q3, q4, a, b, q5⟩ := hm'
        have hz0 := q5.cell 0
        have hz1 := q5.cell 1
        have hz2 := q5.frozen 0
        have hz3 := q5.frozen 1
        have R1 := Lib.hid hr1
        have R2 := Lib.hid hr2
        have hres : Hid (Arr ((wr.setCell ⟨w.heap.size + 1, 0, none⟩ (.slice (some ⟨gx, 0, none⟩) aX.length aX.length)).setCell ⟨w.heap.size + 1, 1, none⟩ (.slice (some ⟨go, 0, none⟩) aO.length aO.length)) (w.heap.size + 1) 24
          [.slice (some ⟨gx, 0, none⟩) aX.length aX.length, .slice (some ⟨go, 0, none⟩) aO.length aO.length]) := (q5.set 0 _).set 1 _
        clear hr1 hr2 hl1 hl2 q1 q4 q5 hX0 hO0
        go_wp2_with fail
        refine bodyPost_ret (v := .agg #[.slice (some ⟨gx, 0, none⟩) aX.length aX.length, .slice (some ⟨go, 0, none⟩) aO.length aO.length]) (results_cell_row Tryz.results90 _ _ (w.heap.size + 1) 24 _ (0, 0) _ rfl hres.out Tryz.underlying24 rfl info_grid) rfl ⟨_, rfl, ?_, ?_⟩
        · rw [R1.out, R2.out]
          exact ⟨gx, go, rfl, e1, by omega, by omega, (q2.far (by show gx ≠ w.heap.size + 1; omega) _).far (by show gx ≠ w.heap.size + 1; omega) _, (q3.far (by show go ≠ w.heap.size + 1; omega) _).far (by show go ≠ w.heap.size + 1; omega) _⟩
        · exact (hb'.setCell (by show w.heap.size ≤ w.heap.size + 1; omega) _).setCell (by show w.heap.size ≤ w.heap.size + 1; omega) _
end Go.Proofs.YteliflcbegcdlaaGreatDoor

namespace Go.Proofs.YteliflcbegcdlaaGreatDoor
set_option linter.unusedVariables false
open Go.RowKit
def upd {α : Type} (x : Nat → α) (i : Nat) (v : α) : Nat → α := fun j => if j = i then v else x j
@[simp] theorem upd_same {α : Type} (x : Nat → α) (i : Nat) (v : α) : upd x i v i = v := by simp [upd]
theorem upd_ne {α : Type} (x : Nat → α) {i j : Nat} (v : α) (h : j ≠ i) : upd x i v j = x j := by simp [upd, h]
/-- what the operations of a region have put so far -/
def putAll : List (Option Tmp) → Nat → (Nat → Value) → Act → Act
  | [], _, _, a => a
  | d :: ds, i, x, a => putAll ds (i + 1) x (a.put d (x i))
def dstOf (ops : Array Oper) : List (Option Tmp) := ops.toList.map (·.dst)
/-- no temporary is written twice -/
def apartD : List (Option Tmp) → Bool
  | [] => true
  | d :: ds => (match d with | none => true | some t => !ds.contains (some t)) && apartD ds
theorem putAll_put : ∀ (ds : List (Option Tmp)) (i : Nat) (x : Nat → Value) (a : Act) (d : Option Tmp) (v : Value), (∀ t, d = some t → some t ∉ ds) → putAll ds i x (a.put d v) = (putAll ds i x a).put d v := by
  intro ds
  induction ds with
  | nil => intro i x a d v _; rfl
  | cons e ds ih =>
    intro i x a d v h
    rw [putAll, putAll, ← ih _ _ _ _ _ (fun t ht hm => h t ht (List.mem_cons_of_mem _ hm))]
    congr 1
    refine Act.put_comm a v (x i) (fun t ht he => ?_)
    exact h t ht (by rw [he]; exact List.mem_cons_self)
theorem putAll_congr : ∀ (ds : List (Option Tmp)) (i : Nat) (x y : Nat → Value) (a : Act), (∀ j, i ≤ j → j < i + ds.length → x j = y j) → putAll ds i x a = putAll ds i y a := by
  intro ds
  induction ds with
  | nil => intro i x y a _; rfl
  | cons e ds ih =>
    intro i x y a h
    rw [putAll, putAll, h i (Nat.le_refl _) (by simp), ih (i + 1) x y _ (fun j h1 h2 => h j (by omega) (by simp at h2 ⊢; omega))]
theorem put_put (a : Act) (d : Option Tmp) (u v : Value) : (a.put d u).put d v = a.put d v := by
  cases d <;> simp [Act.put]
theorem putAll_upd : ∀ (ds : List (Option Tmp)) (i : Nat) (x : Nat → Value) (a : Act) (k : Nat) (v : Value), apartD ds = true → k < ds.length → (putAll ds i x a).put (ds.getD k none) v = putAll ds i (upd x (i + k) v) a := by
  intro ds
  induction ds with
  | nil => intro i x a k v _ h; simp at h
  | cons e ds ih =>
    intro i x a k v hd hk
    simp only [apartD, Bool.and_eq_true] at hd
    rw [putAll, putAll]
    cases k with
    | zero =>
      simp only [Nat.add_zero, upd_same, List.getD_cons_zero]
      rw [← putAll_put]
      · rw [put_put]
        exact putAll_congr _ _ _ _ _ (fun j h1 h2 => (upd_ne x v (by omega)).symm)
      · intro t ht
        rw [ht] at hd
        have := hd.1
        simpa using this
    | succ k =>
      rw [List.getD_cons_succ, ih _ _ _ _ _ hd.2 (by simpa using hk), upd_ne x v (by omega)]
      congr 2
      omega
def slotV (a : Act) (d : Option Tmp) : Value := match d with | some t => a.tmps.getD t undef | none => undef
theorem put_get (a : Act) (d : Option Tmp) : a.put d (slotV a d) = a := by
  cases d with
  | none => rfl
  | some t =>
    simp only [Act.put, slotV]
    congr 1
    apply Array.ext
    · simp
    · intro j h1 h2
      simp only [Array.getElem_setIfInBounds h2]
      split
      · rename_i h; subst h; simp [h2]
      · rfl
theorem putAll_start : ∀ (ds : List (Option Tmp)) (i : Nat) (a : Act), apartD ds = true → putAll ds i (fun j => slotV a (ds.getD (j - i) none)) a = a := by
  intro ds
  induction ds with
  | nil => intro i a _; rfl
  | cons e ds ih =>
    intro i a hd
    simp only [apartD, Bool.and_eq_true] at hd
    rw [putAll]
    have h0 : slotV a ((e :: ds).getD (i - i) none) = slotV a e := by simp
    simp only [h0, put_get]
    refine Eq.trans (putAll_congr _ _ _ _ _ (fun j h1 h2 => ?_)) (ih (i + 1) a hd.2)
    rw [show j - i = (j - (i + 1)) + 1 from by omega, List.getD_cons_succ]
/-- each edge leads back -/
def backD (ops : Array Oper) : Bool := (List.range ops.size).all fun i => ((ops[i]?).map (·.after.all fun e => !Region.binds .any e || decide (e.on < i))).getD true
def deps (o : Oper) : List Nat := (o.after.toList.filter fun e => Region.binds .any e).map (·.on)
def depsAt (ops : Array Oper) (j : Nat) : List Nat := match ops[j]? with | some o => deps o | none => []
section
variable {P : Program} {ops : Array Oper} {Q : Exit → Act → World → Prop}
theorem ready_nil (hb : backD ops = true) {listed : Array Bool} (hs : listed.size = ops.size) (h : Region.ready .any ops listed = []) : ∀ i, i < ops.size → listed.getD i true = true := by
  intro i
  induction i using Nat.strongRecOn with
  | _ i ih =>
    intro hi
    cases hl : listed.getD i true with
    | true => rfl
    | false =>
      exfalso
      have : i ∈ Region.ready .any ops listed := by
        rw [mem_ready]
        refine ⟨hl, ops[i], by simp [hi], fun e he hbe => ?_⟩
        have hlt : e.on < i := by
          simp only [backD, List.all_eq_true, List.mem_range] at hb
          have := hb i hi
          simp only [hi, Array.getElem?_eq_getElem, Option.map_some, Option.getD_some, Array.all_eq_true_iff_forall_mem] at this
          have h2 := this e he
          rw [hbe] at h2
          simpa using h2
        have := ih e.on hlt (by omega)
        have hlt' : e.on < listed.size := by omega
        simpa [Array.getD, hlt'] using this
      rw [h] at this
      cases this
def countF (l : Array Bool) : Nat := l.toList.countP (· == false)
theorem countF_list : ∀ (m : List Bool) (i : Nat), m[i]? = some false → (m.set i true).countP (· == false) + 1 = m.countP (· == false) := by
  intro m
  induction m with
  | nil => intro i h; simp at h
  | cons b m ih =>
    intro i h
    cases i with
    | zero => simp at h; simp [h]
    | succ i =>
      have := ih i (by simpa using h)
      simp only [List.set_cons_succ, List.countP_cons]
      omega
theorem countF_set {l : Array Bool} {i : Nat} (h : l.getD i true = false) : countF (l.setIfInBounds i true) + 1 = countF l := by
  have hi : i < l.size := by
    rcases Nat.lt_or_ge i l.size with h' | h'
    · exact h'
    · simp [Array.getD, Nat.not_lt.2 h'] at h
  unfold countF
  rw [Array.toList_setIfInBounds]
  refine countF_list _ _ ?_
  simpa [Array.getD, hi] using h
theorem wpAny_inv (hb : backD ops = true) (I : Array Bool → Act → World → Prop)
    (hstep : ∀ l a w i, l.size = ops.size → I l a w → i ∈ Region.ready .any ops l → wpOp P ops Q i (I (l.setIfInBounds i true)) a w)
    (hend : ∀ l a w, l.size = ops.size → I l a w → (∀ i, i < ops.size → l.getD i true = true) → Q .normal a w) :
    ∀ (fuel : Nat) (l : Array Bool) (a : Act) (w : World), l.size = ops.size → countF l ≤ fuel → I l a w → wpAny P .any ops Q fuel l a w := by
  intro fuel
  induction fuel with
  | zero =>
    intro l a w hs hc h
    have hr : Region.ready .any ops l = [] := by
      cases hr : Region.ready .any ops l with
      | nil => rfl
      | cons i r =>
        have : i ∈ Region.ready .any ops l := by rw [hr]; exact List.mem_cons_self
        have := countF_set (mem_ready.1 this).1
        omega
    exact ⟨hr, hend l a w hs h (ready_nil hb hs hr)⟩
  | succ fuel ih =>
    intro l a w hs hc h
    refine ⟨fun hr => hend l a w hs h (ready_nil hb hs hr), fun i hi => ?_⟩
    refine wpOp_mono (fun a' w' h' => ih _ a' w' (by simpa using hs) ?_ h') (hstep l a w i hs h hi)
    have := countF_set (mem_ready.1 hi).1
    omega
/-- The region by facts. 'x i' is the value of operation i, 'D i' says that it has come up. -/
theorem wp_region_facts {id : Nat} {a : Act} {w : World} (hm : P.follows .mixedOrders = true) (hd : apartD (dstOf ops) = true) (hb : backD ops = true)
    (I : (Nat → Bool) → (Nat → Value) → World → Prop)
    (h0 : ∀ x, I (fun _ => false) x w.drew)
    (hstep : ∀ i o, ops[i]? = some o → ∀ D x w, I D x w → D i = false → (∀ j ∈ deps o, D j = true) → (∀ j, D j = true → ∀ k ∈ depsAt ops j, D k = true) → wpOp P ops Q i (fun a' w' => ∃ v, a' = (putAll (dstOf ops) 0 x a).put o.dst v ∧ I (upd D i true) (upd x i v) w') (putAll (dstOf ops) 0 x a) w)
    (hend : ∀ D x w, I D x w → (∀ i, i < ops.size → D i = true) → Q .normal (putAll (dstOf ops) 0 x a) w) : (Code.region id ops true).wp P Q a w := by
  refine wp_region_any hm (wpAny_inv hb (fun l a' w' => ∃ x, a' = putAll (dstOf ops) 0 x a ∧ (∀ j, l.getD j false = true → ∀ k ∈ depsAt ops j, l.getD k false = true) ∧ I (fun j => l.getD j false) x w') ?_ ?_ _ _ _ _ (by simp) ?_ ?_)
  · rintro l a' w' i hs ⟨x, rfl, hcl, hI⟩ hi
    obtain ⟨hun, o, ho, hdep⟩ := mem_ready.1 hi
    have hlt : i < ops.size := (Array.getElem?_eq_some_iff.1 ho).1
    have hdi : (dstOf ops).getD i none = o.dst := by
      have : ops[i] = o := by simpa [hlt] using ho
      simp [dstOf, hlt, this]
    have hdp : ∀ j ∈ deps o, l.getD j false = true := by
      intro j hj
      simp only [deps, List.mem_map, List.mem_filter] at hj
      obtain ⟨e, ⟨he, hbe⟩, rfl⟩ := hj
      exact hdep e (by simpa using he) hbe
    refine wpOp_mono ?_ (hstep i o ho (fun j => l.getD j false) x w' hI (by have h' : i < l.size := by omega
                                                                            simpa [Array.getD, h'] using hun) hdp hcl)
    · rintro a'' w'' ⟨v, rfl, hI'⟩
      refine ⟨upd x i v, ?_, ?_, ?_⟩
      · rw [← hdi, putAll_upd _ _ _ _ _ _ hd (by simpa [dstOf] using hlt), Nat.zero_add]
      · intro j hj k hk
        by_cases e : k = i
        · subst e
          have h' : k < l.size := by omega
          simp [Array.getD, h']
        rw [getD_set_ne _ (Ne.symm e)]
        by_cases ej : j = i
        · subst ej
          simp only [depsAt, ho] at hk
          exact hdp k hk
        · rw [getD_set_ne _ (Ne.symm ej)] at hj
          exact hcl j hj k hk
      · have : (fun j => (l.setIfInBounds i true).getD j false) = upd (fun j => l.getD j false) i true := by
          funext j
          by_cases e : j = i
          · subst e
            have h' : j < l.size := by omega
            simp [upd, Array.getD, h']
          · rw [upd_ne _ _ e, getD_set_ne _ (Ne.symm e)]
        rw [this]
        exact hI'
  · rintro l a' w' hs ⟨x, rfl, _, hI⟩ hall
    refine hend _ x w' hI (fun i hi => ?_)
    have := hall i hi
    cases hl : l.getD i false with
    | true => rfl
    | false => 
      rcases Nat.lt_or_ge i l.size with h' | h'
      · simp [Array.getD, h'] at this hl; rw [this] at hl; cases hl
      · omega
  · exact Nat.le_trans List.countP_le_length (by simp)
  · refine ⟨_, (putAll_start _ 0 a hd).symm, fun j hj => ?_, ?_⟩
    · by_cases h : j < ops.size <;> simp [Array.getD, h] at hj
    have : (fun j => (Array.replicate ops.size false).getD j false) = fun _ => false := by
      funext j
      by_cases h : j < ops.size <;> simp [Array.getD, h]
    rw [this]
    exact h0 _
def AllOps (Φ : Nat → Oper → Prop) : Nat → List Oper → Prop
  | _, [] => True
  | i, o :: os => Φ i o ∧ AllOps Φ (i + 1) os
theorem AllOps.get {Φ : Nat → Oper → Prop} : ∀ (l : List Oper) (i : Nat), AllOps Φ i l → ∀ k o, l[k]? = some o → Φ (i + k) o := by
  intro l
  induction l with
  | nil => intro i _ k o h; simp at h
  | cons q l ih =>
    intro i h k o ho
    cases k with
    | zero => simp at ho; subst ho; exact h.1
    | succ k => have := ih (i + 1) h.2 k o (by simpa using ho); rw [show i + (k + 1) = i + 1 + k from by omega]; exact this
theorem wpOp_plain {i : Nat} {o : Oper} {a : Act} {w : World} {K : Act → World → Prop} (h : ops[i]? = some o) (hg : o.guard = none) (hw : o.wp P a w K Q) : wpOp P ops Q i K a w := by
  unfold wpOp
  simp only [h, Region.wanted, hg, if_true]
  exact .inl hw
def NoQ : Exit → Act → World → Prop := fun _ _ _ => False
theorem wp_noQ {o : Oper} {a : Act} {w : World} {K : Act → World → Prop} (h : o.wp P a w K NoQ) : o.wp P a w K Q := by
  unfold Oper.wp at *
  generalize (execOp a.eval o).run P w = r at *
  cases r with
  | ok n w' =>
    cases n <;> simp only [Oper.upon] at h ⊢ <;>
      first
        | exact h
        | exact Calls.mono h (fun e w'' he => by cases e <;> first | exact he | exact he.elim | (obtain ⟨_, _, hf⟩ := he; exact hf.elim))
  | halt x w' => cases x <;> simp only [Oper.upon] at h ⊢ <;> first | exact h | exact h.elim
/-- what slot t holds -/
def look (ds : List (Option Tmp)) (x : Nat → Value) (a : Act) (t : Tmp) : Value :=
  match ds.idxOf? (some t) with
  | some i => x i
  | none => a.tmps.getD t undef
theorem getD_put (a : Act) (d t : Tmp) (v : Value) (hd : d < a.tmps.size) : (a.put (some d) v).tmps.getD t undef = if d = t then v else a.tmps.getD t undef := by
  simp only [Act.put, Array.getD_eq_getD_getElem?, Array.getElem?_setIfInBounds]
  by_cases h : d = t
  · subst h; simp [hd]
  · simp [h]
theorem size_put (a : Act) (d : Option Tmp) (v : Value) : (a.put d v).tmps.size = a.tmps.size := by cases d <;> simp [Act.put]
def inD (n : Nat) (ds : List (Option Tmp)) : Bool := ds.all fun d => match d with | some t => decide (t < n) | none => true
theorem putAll_look : ∀ (ds : List (Option Tmp)) (i : Nat) (x : Nat → Value) (a : Act) (t : Tmp), apartD ds = true → inD a.tmps.size ds = true →
    (putAll ds i x a).tmps.getD t undef = match ds.idxOf? (some t) with | some k => x (i + k) | none => a.tmps.getD t undef := by
  intro ds
  induction ds with
  | nil => intro i x a t _ _; rfl
  | cons e ds ih =>
    intro i x a t hd hn
    simp only [apartD, Bool.and_eq_true] at hd
    simp only [inD, List.all_cons, Bool.and_eq_true] at hn
    rw [putAll, ih _ _ _ _ hd.2 (by rw [size_put]; exact hn.2), List.idxOf?_cons]
    by_cases he : e = some t
    · subst he
      have hnm : ds.idxOf? (some t) = none := by
        rw [List.idxOf?_eq_none_iff]
        have := hd.1
        simpa using this
      simp only [hnm, beq_self_eq_true, if_true, Nat.add_zero]
      rw [getD_put _ _ _ _ (by simpa using hn.1), if_pos rfl]
    · have hb : (e == some t) = false := by simpa using he
      rw [hb]
      simp only [Bool.false_eq_true, if_false]
      cases hk : ds.idxOf? (some t) with
      | some k => simp only [Option.map_some]; congr 1; omega
      | none =>
        simp only [Option.map_none]
        cases e with
        | none => rfl
        | some d =>
          rw [getD_put _ _ _ _ (by simpa using hn.1), if_neg (fun h => he (by rw [h]))]
/-- behind one operation -/
def StepPost (I : (Nat → Bool) → (Nat → Value) → World → Prop) (D : Nat → Bool) (x : Nat → Value) (i : Nat) (b : Act) (d : Option Tmp) (a' : Act) (w' : World) : Prop := ∃ v, a' = b.put d v ∧ I (upd D i true) (upd x i v) w'
theorem StepPost.mk' {I : (Nat → Bool) → (Nat → Value) → World → Prop} {D : Nat → Bool} {x : Nat → Value} {i : Nat} {b : Act} {d : Option Tmp} {w' : World} {v : Value} (h : I (upd D i true) (upd x i v) w') : StepPost I D x i b d (b.put d v) w' := ⟨v, rfl, h⟩
/-- the region by facts, no operation guarded -/
theorem wp_region_factsU {id : Nat} {l : List Oper} {a : Act} {w : World} (hm : P.follows .mixedOrders = true) (hd : apartD (dstOf l.toArray) = true) (hb : backD l.toArray = true) (hg : l.all (fun o => o.guard.isNone) = true) (hn : inD a.tmps.size (dstOf l.toArray) = true)
    (I : (Nat → Bool) → (Nat → Value) → World → Prop)
    (h0 : ∀ x, I (fun _ => false) x w.drew)
    (hstep : AllOps (fun i o => ∀ D x w (b : Act), I D x w → D i = false → (∀ j ∈ deps o, D j = true) → (∀ j, D j = true → ∀ k ∈ depsAt l.toArray j, D k = true) → (∀ t : Nat, b.tmps[t]?.getD undef = look (dstOf l.toArray) x a t) → o.wp P b w (StepPost I D x i b o.dst) NoQ) 0 l)
    (hend : ∀ D x w, I D x w → (∀ i, i < l.length → D i = true) → Q .normal (putAll (dstOf l.toArray) 0 x a) w) : (Code.region id l.toArray true).wp P Q a w := by
  refine wp_region_facts hm hd hb I h0 (fun i o ho D x w hI hD hdep hcl => ?_) (fun D x w hI h => hend D x w hI (by simpa using h))
  have ho' : l[i]? = some o := by simpa using ho
  refine wpOp_plain ho ?_ ?_
  · have := List.all_eq_true.1 hg o (List.mem_of_getElem? ho')
    simpa using this
  · have := hstep.get _ _ i o ho' D x w (putAll (dstOf l.toArray) 0 x a)
    rw [Nat.zero_add] at this
    refine wp_noQ (this hI hD hdep hcl (fun t => ?_))
    rw [← Array.getD_eq_getD_getElem?, putAll_look _ _ _ _ _ hd hn]
    unfold look
    simp only [Nat.zero_add]
theorem wp_of_run {I : (Nat → Bool) → (Nat → Value) → World → Prop} {D : Nat → Bool} {x : Nat → Value} {i : Nat} {o : Oper} {b : Act} {w w' : World} (v : Value) (h : (execOp b.eval o).run P w = .ok (.value v) w') (hK : I (upd D i true) (upd x i v) w') : o.wp P b w (StepPost I D x i b o.dst) NoQ := by
  unfold Oper.wp; rw [h]; exact StepPost.mk' hK
theorem wp_of_skip {I : (Nat → Bool) → (Nat → Value) → World → Prop} {D : Nat → Bool} {x : Nat → Value} {i : Nat} {o : Oper} {b : Act} {w w' : World} (h : (execOp b.eval o).run P w = .ok .skip w') (hK : I (upd D i true) (upd x i undef) w') : o.wp P b w (StepPost I D x i b o.dst) NoQ := by
  unfold Oper.wp; rw [h]; exact StepPost.mk' hK
end
end Go.Proofs.YteliflcbegcdlaaGreatDoor

namespace Go.Proofs.YteliflcbegcdlaaGreatDoor
open Go.RowKit
set_option linter.unusedVariables false
section
variable {P : Program} {ops : Array Oper} {Q : Exit → Act → World → Prop}
/-- The region by facts. 'x i' is the value of operation i, 'D i' says that it has come up. -/
theorem wp_region_facts2 {id : Nat} {a : Act} {w : World} (hm : P.follows .mixedOrders = true) (hd : apartD (dstOf ops) = true) (hb : backD ops = true)
    (I : (Nat → Bool) → (Nat → Value) → World → Prop)
    (h0 : I (fun _ => false) (fun j => slotV a ((dstOf ops).getD (j - 0) none)) w.drew)
    (hstep : ∀ i o, ops[i]? = some o → ∀ D x w, I D x w → D i = false → (∀ j ∈ deps o, D j = true) → (∀ j, D j = true → ∀ k ∈ depsAt ops j, D k = true) → wpOp P ops Q i (fun a' w' => ∃ v, a' = (putAll (dstOf ops) 0 x a).put o.dst v ∧ I (upd D i true) (upd x i v) w') (putAll (dstOf ops) 0 x a) w)
    (hend : ∀ D x w, I D x w → (∀ i, i < ops.size → D i = true) → Q .normal (putAll (dstOf ops) 0 x a) w) : (Code.region id ops true).wp P Q a w := by
  refine wp_region_any hm (wpAny_inv hb (fun l a' w' => ∃ x, a' = putAll (dstOf ops) 0 x a ∧ (∀ j, l.getD j false = true → ∀ k ∈ depsAt ops j, l.getD k false = true) ∧ I (fun j => l.getD j false) x w') ?_ ?_ _ _ _ _ (by simp) ?_ ?_)
  · rintro l a' w' i hs ⟨x, rfl, hcl, hI⟩ hi
    obtain ⟨hun, o, ho, hdep⟩ := mem_ready.1 hi
    have hlt : i < ops.size := (Array.getElem?_eq_some_iff.1 ho).1
    have hdi : (dstOf ops).getD i none = o.dst := by
      have : ops[i] = o := by simpa [hlt] using ho
      simp [dstOf, hlt, this]
    have hdp : ∀ j ∈ deps o, l.getD j false = true := by
      intro j hj
      simp only [deps, List.mem_map, List.mem_filter] at hj
      obtain ⟨e, ⟨he, hbe⟩, rfl⟩ := hj
      exact hdep e (by simpa using he) hbe
    refine wpOp_mono ?_ (hstep i o ho (fun j => l.getD j false) x w' hI (by have h' : i < l.size := by omega
                                                                            simpa [Array.getD, h'] using hun) hdp hcl)
    · rintro a'' w'' ⟨v, rfl, hI'⟩
      refine ⟨upd x i v, ?_, ?_, ?_⟩
      · rw [← hdi, putAll_upd _ _ _ _ _ _ hd (by simpa [dstOf] using hlt), Nat.zero_add]
      · intro j hj k hk
        by_cases e : k = i
        · subst e
          have h' : k < l.size := by omega
          simp [Array.getD, h']
        rw [getD_set_ne _ (Ne.symm e)]
        by_cases ej : j = i
        · subst ej
          simp only [depsAt, ho] at hk
          exact hdp k hk
        · rw [getD_set_ne _ (Ne.symm ej)] at hj
          exact hcl j hj k hk
      · have : (fun j => (l.setIfInBounds i true).getD j false) = upd (fun j => l.getD j false) i true := by
          funext j
          by_cases e : j = i
          · subst e
            have h' : j < l.size := by omega
            simp [upd, Array.getD, h']
          · rw [upd_ne _ _ e, getD_set_ne _ (Ne.symm e)]
        rw [this]
        exact hI'
  · rintro l a' w' hs ⟨x, rfl, _, hI⟩ hall
    refine hend _ x w' hI (fun i hi => ?_)
    have := hall i hi
    cases hl : l.getD i false with
    | true => rfl
    | false => 
      rcases Nat.lt_or_ge i l.size with h' | h'
      · simp [Array.getD, h'] at this hl; rw [this] at hl; cases hl
      · omega
  · exact Nat.le_trans List.countP_le_length (by simp)
  · refine ⟨_, (putAll_start _ 0 a hd).symm, fun j hj => ?_, ?_⟩
    · by_cases h : j < ops.size <;> simp [Array.getD, h] at hj
    have : (fun j => (Array.replicate ops.size false).getD j false) = fun _ => false := by
      funext j
      by_cases h : j < ops.size <;> simp [Array.getD, h]
    rw [this]
    exact h0
/-- the region by facts, no operation guarded -/
theorem wp_region_facts2U {id : Nat} {l : List Oper} {a : Act} {w : World} (hm : P.follows .mixedOrders = true) (hd : apartD (dstOf l.toArray) = true) (hb : backD l.toArray = true) (hg : l.all (fun o => o.guard.isNone) = true) (hn : inD a.tmps.size (dstOf l.toArray) = true)
    (I : (Nat → Bool) → (Nat → Value) → World → Prop)
    (h0 : I (fun _ => false) (fun j => slotV a ((dstOf l.toArray).getD (j - 0) none)) w.drew)
    (hstep : AllOps (fun i o => ∀ D x w (b : Act), I D x w → D i = false → (∀ j ∈ deps o, D j = true) → (∀ j, D j = true → ∀ k ∈ depsAt l.toArray j, D k = true) → (∀ t : Nat, b.tmps[t]?.getD undef = look (dstOf l.toArray) x a t) → o.wp P b w (StepPost I D x i b o.dst) NoQ) 0 l)
    (hend : ∀ D x w, I D x w → (∀ i, i < l.length → D i = true) → Q .normal (putAll (dstOf l.toArray) 0 x a) w) : (Code.region id l.toArray true).wp P Q a w := by
  refine wp_region_facts2 hm hd hb I h0 (fun i o ho D x w hI hD hdep hcl => ?_) (fun D x w hI h => hend D x w hI (by simpa using h))
  have ho' : l[i]? = some o := by simpa using ho
  refine wpOp_plain ho ?_ ?_
  · have := List.all_eq_true.1 hg o (List.mem_of_getElem? ho')
    simpa using this
  · have := hstep.get _ _ i o ho' D x w (putAll (dstOf l.toArray) 0 x a)
    rw [Nat.zero_add] at this
    refine wp_noQ (this hI hD hdep hcl (fun t => ?_))
    rw [← Array.getD_eq_getD_getElem?, putAll_look _ _ _ _ _ hd hn]
    unfold look
    simp only [Nat.zero_add]
end
section
variable {P : Program} {Q : Exit → Act → World → Prop}
variable {w : World} {Φ : Nat → Value → World → Prop} {i : Nat} {b : Act} {o : Oper}
/-- the facts of a table: a value for each operation, but for those with a property of their own -/
def phiT (ev : Nat → Option Value) (Ψ : Nat → Value → World → Prop) (i : Nat) (v : Value) (w : World) : Prop := match ev i with | some u => v = u | none => Ψ i v w
end
end Go.Proofs.YteliflcbegcdlaaGreatDoor

namespace Go.Proofs.YteliflcbegcdlaaGreatDoor
open Go.RowKit
set_option linter.unusedVariables false
section
variable {P : Program} {ops : Array Oper} {Q : Exit → Act → World → Prop}
/-- the guard of an operation is met -/
def gOk (ops : Array Oper) (o : Oper) (b : Act) : Prop := match o.guard with
  | none => True
  | some (j, want) => ∃ d : Nat, (ops[j]?.bind (·.dst)) = some d ∧ b.tmps[d]?.getD undef = .bool want
theorem gOk.wanted {o : Oper} {b : Act} (h : gOk ops o b) : Region.wanted o (yielded ops b.tmps) = true := by
  unfold gOk at h
  unfold Region.wanted
  cases hg : o.guard with
  | none => rfl
  | some p =>
    obtain ⟨j, want⟩ := p
    rw [hg] at h
    obtain ⟨d, hd, hv⟩ := h
    have hv2 : b.tmps[d]? = some (.bool want) := by
      cases ht : b.tmps[d]? with
      | none => rw [ht] at hv; simp [undef] at hv
      | some u => rw [ht] at hv; simp at hv; rw [hv]
    show (yielded ops b.tmps j == some want) = true
    unfold yielded
    rw [hd, Option.bind_some, hv2]
    simp
theorem wpOp_met {i : Nat} {o : Oper} {a : Act} {w : World} {K : Act → World → Prop} (h : ops[i]? = some o) (hg : Region.wanted o (yielded ops a.tmps) = true) (hw : o.wp P a w K Q) : wpOp P ops Q i K a w := by
  unfold wpOp
  simp only [h, hg, if_true]
  exact .inl hw
end
section
variable {P : Program} {Q : Exit → Act → World → Prop}
end
end Go.Proofs.YteliflcbegcdlaaGreatDoor

namespace Go.Proofs.YteliflcbegcdlaaGreatDoor
open Go.RowKit
set_option linter.unusedVariables false
section
variable {P : Program} {Q : Exit → Act → World → Prop}
variable {w : World} {ev : Nat → Value} {S : World → World} {n i m : Nat} {b : Act} {o : Oper}
end
end Go.Proofs.YteliflcbegcdlaaGreatDoor

namespace Go.Proofs.YteliflcbegcdlaaGreatDoor
open Go.RowKit
set_option linter.unusedVariables false
section
variable {P : Program} {ops : Array Oper} {Q : Exit → Act → World → Prop}
/-- the guard of an operation is not met (it is the other truth value, or it was not asked itself) -/
def gNo (ops : Array Oper) (o : Oper) (b : Act) : Prop := match o.guard with
  | none => False
  | some (j, want) => ∃ d : Nat, (ops[j]?.bind (·.dst)) = some d ∧ (b.tmps[d]?.getD undef = .bool (!want) ∨ b.tmps[d]?.getD undef = undef)
theorem gNo.wanted {o : Oper} {b : Act} (h : gNo ops o b) : Region.wanted o (yielded ops b.tmps) = false := by
  unfold gNo at h
  unfold Region.wanted
  cases hg : o.guard with
  | none => rw [hg] at h; exact absurd h id
  | some p =>
    obtain ⟨j, want⟩ := p
    rw [hg] at h
    obtain ⟨d, hd, hv⟩ := h
    show (yielded ops b.tmps j == some want) = false
    unfold yielded
    rw [hd, Option.bind_some]
    rcases hv with hv | hv
    · cases ht : b.tmps[d]? with
      | none => simp
      | some u =>
        rw [ht] at hv
        simp only [Option.getD_some] at hv
        rw [hv]
        cases want <;> simp
    · cases ht : b.tmps[d]? with
      | none => simp
      | some u =>
        rw [ht] at hv
        simp only [Option.getD_some] at hv
        rw [hv]
        simp [undef]
theorem wpOp_skip {i : Nat} {o : Oper} {a : Act} {w : World} {K : Act → World → Prop} (h : ops[i]? = some o) (hg : Region.wanted o (yielded ops a.tmps) = false) (hw : K (a.put o.dst undef) w) : wpOp P ops Q i K a w := by
  unfold wpOp
  simp only [h, hg]
  exact hw
/-- the region by facts, guards met or not -/
theorem wp_region_facts2X {id : Nat} {l : List Oper} {a : Act} {w : World} (hm : P.follows .mixedOrders = true) (hd : apartD (dstOf l.toArray) = true) (hb : backD l.toArray = true) (hn : inD a.tmps.size (dstOf l.toArray) = true)
    (I : (Nat → Bool) → (Nat → Value) → World → Prop)
    (h0 : I (fun _ => false) (fun j => slotV a ((dstOf l.toArray).getD (j - 0) none)) w.drew)
    (hstep : AllOps (fun i o => ∀ D x w (b : Act), I D x w → D i = false → (∀ j ∈ deps o, D j = true) → (∀ j, D j = true → ∀ k ∈ depsAt l.toArray j, D k = true) → (∀ t : Nat, b.tmps[t]?.getD undef = look (dstOf l.toArray) x a t) → (gOk l.toArray o b ∧ o.wp P b w (StepPost I D x i b o.dst) NoQ) ∨ (gNo l.toArray o b ∧ I (upd D i true) (upd x i undef) w)) 0 l)
    (hend : ∀ D x w, I D x w → (∀ i, i < l.length → D i = true) → Q .normal (putAll (dstOf l.toArray) 0 x a) w) : (Code.region id l.toArray true).wp P Q a w := by
  refine wp_region_facts2 hm hd hb I h0 (fun i o ho D x w hI hD hdep hcl => ?_) (fun D x w hI h => hend D x w hI (by simpa using h))
  have ho' : l[i]? = some o := by simpa using ho
  have := hstep.get _ _ i o ho' D x w (putAll (dstOf l.toArray) 0 x a)
  rw [Nat.zero_add] at this
  have h2 := this hI hD hdep hcl (fun t => by
    rw [← Array.getD_eq_getD_getElem?, putAll_look _ _ _ _ _ hd hn]
    unfold look
    simp only [Nat.zero_add])
  rcases h2 with ⟨h2, h3⟩ | ⟨h2, h3⟩
  · exact wpOp_met ho h2.wanted (wp_noQ h3)
  · exact wpOp_skip ho h2.wanted ⟨undef, rfl, h3⟩
end
section
variable {P : Program} {Q : Exit → Act → World → Prop}
/-- behind one operation -/
def PhxPost (T : World → World → Prop) (w : World) (Φ : Nat → Value → World → Prop) (i : Nat) (b : Act) (d : Option Tmp) (a' : Act) (w' : World) : Prop := ∃ v, a' = b.put d v ∧ T w w' ∧ Φ i v w'
/-- the same without a store at the end -/
theorem wp_region_phy {id : Nat} {l : List Oper} {a : Act} {w0 : World} (T : World → World → Prop) (Tr : ∀ {a b c}, T a b → T b c → T a c) (T0 : T w0 w0.drew) (hm : P.follows .mixedOrders = true) (hd : apartD (dstOf l.toArray) = true) (hb : backD l.toArray = true) (hn : inD a.tmps.size (dstOf l.toArray) = true)
    (Φ : Nat → Value → World → Prop) (hΦ : ∀ i v w w', Φ i v w → T w w' → Φ i v w')
    (hstep : AllOps (fun i o => ∀ (x : Nat → Value) w (b : Act), T w0 w → (∀ j ∈ deps o, Φ j (x j) w) → (∀ j, i ∈ depsAt l.toArray j → x j = slotV a ((dstOf l.toArray).getD (j - 0) none)) → (∀ t : Nat, b.tmps[t]?.getD undef = look (dstOf l.toArray) x a t) →
      (gOk l.toArray o b ∧ o.wp P b w (PhxPost T w Φ i b o.dst) NoQ) ∨ (gNo l.toArray o b ∧ Φ i undef w)) 0 l)
    (hend : ∀ (x : Nat → Value) w, T w0 w → (∀ i, i < l.length → Φ i (x i) w) → Q .normal (putAll (dstOf l.toArray) 0 x a) w) : (Code.region id l.toArray true).wp P Q a w0 := by
  refine wp_region_facts2X hm hd hb hn (fun D x w => T w0 w ∧ (∀ i, D i = true → Φ i (x i) w) ∧ ∀ i, D i = false → x i = (fun j => slotV a ((dstOf l.toArray).getD (j - 0) none)) i) ⟨T0, fun i h => Bool.noConfusion h, fun _ _ => rfl⟩ ?_ ?_
  · have key : ∀ k o, l[k]? = some o → ∀ D x W (b : Act), (T w0 W ∧ (∀ i, D i = true → Φ i (x i) W) ∧ ∀ i, D i = false → x i = (fun j => slotV a ((dstOf l.toArray).getD (j - 0) none)) i) → D k = false → (∀ j ∈ deps o, D j = true) → (∀ j, D j = true → ∀ q ∈ depsAt l.toArray j, D q = true) → (∀ t : Nat, b.tmps[t]?.getD undef = look (dstOf l.toArray) x a t) → (gOk l.toArray o b ∧ o.wp P b W (StepPost (fun D x w => T w0 w ∧ (∀ i, D i = true → Φ i (x i) w) ∧ ∀ i, D i = false → x i = (fun j => slotV a ((dstOf l.toArray).getD (j - 0) none)) i) D x k b o.dst) NoQ) ∨ (gNo l.toArray o b ∧ (T w0 W ∧ (∀ i, upd D k true i = true → Φ i (upd x k undef i) W) ∧ ∀ i, upd D k true i = false → upd x k undef i = (fun j => slotV a ((dstOf l.toArray).getD (j - 0) none)) i)) := by
      intro k o ho D x W b hI hD hdep hcl hbt
      have hs := hstep.get _ _ k o ho x W b hI.1 (fun j hj => hI.2.1 j (hdep j hj)) (fun j hj => hI.2.2 j (by
        cases h : D j with
        | false => rfl
        | true =>
          rw [Nat.zero_add] at hj
          have := hcl j h k hj
          rw [hD] at this; cases this)) hbt
      rw [Nat.zero_add] at hs
      rcases hs with ⟨g1, g2⟩ | ⟨g1, g2⟩
      · refine .inl ⟨g1, Oper.wp_mono ?_ g2⟩
        rintro a' w' ⟨v, rfl, hb', hv⟩
        refine ⟨v, rfl, Tr hI.1 hb', fun i hi => ?_, fun i hi => ?_⟩
        · by_cases e : i = k
          · subst e; rw [upd_same]; exact hv
          · rw [upd_ne _ _ e] at hi ⊢
            exact hΦ i (x i) W w' (hI.2.1 i hi) hb'
        · by_cases e : i = k
          · subst e; rw [upd_same] at hi; cases hi
          · rw [upd_ne _ _ e] at hi ⊢
            exact hI.2.2 i hi
      · refine .inr ⟨g1, hI.1, fun i hi => ?_, fun i hi => ?_⟩
        · by_cases e : i = k
          · subst e; rw [upd_same]; exact g2
          · rw [upd_ne _ _ e] at hi ⊢
            exact hI.2.1 i hi
        · by_cases e : i = k
          · subst e; rw [upd_same] at hi; cases hi
          · rw [upd_ne _ _ e] at hi ⊢
            exact hI.2.2 i hi
    have aux : ∀ (r : List Oper) (s : Nat), (∀ k, r[k]? = l[s + k]?) → AllOps (fun k o => ∀ D x W (b : Act), (T w0 W ∧ (∀ i, D i = true → Φ i (x i) W) ∧ ∀ i, D i = false → x i = (fun j => slotV a ((dstOf l.toArray).getD (j - 0) none)) i) → D k = false → (∀ j ∈ deps o, D j = true) → (∀ j, D j = true → ∀ q ∈ depsAt l.toArray j, D q = true) → (∀ t : Nat, b.tmps[t]?.getD undef = look (dstOf l.toArray) x a t) → (gOk l.toArray o b ∧ o.wp P b W (StepPost (fun D x w => T w0 w ∧ (∀ i, D i = true → Φ i (x i) w) ∧ ∀ i, D i = false → x i = (fun j => slotV a ((dstOf l.toArray).getD (j - 0) none)) i) D x k b o.dst) NoQ) ∨ (gNo l.toArray o b ∧ (T w0 W ∧ (∀ i, upd D k true i = true → Φ i (upd x k undef i) W) ∧ ∀ i, upd D k true i = false → upd x k undef i = (fun j => slotV a ((dstOf l.toArray).getD (j - 0) none)) i))) s r := by
      intro r
      induction r with
      | nil => intro s _; trivial
      | cons o r ih =>
        intro s hr
        refine ⟨key s o (by have := hr 0; simpa using this.symm), ih (s + 1) (fun k => ?_)⟩
        have := hr (k + 1)
        rw [List.getElem?_cons_succ] at this
        rw [this]; congr 1; omega
    exact aux l 0 (fun k => by rw [Nat.zero_add])
  · intro D x W hI hall
    exact hend x W hI.1 (fun i hi => hI.2.1 i (hall i hi))
variable {w : World} {T : World → World → Prop} {Φ : Nat → Value → World → Prop} {i : Nat} {b : Act} {o : Oper}
theorem phx_run (v : Value) (h : (execOp b.eval o).run P w = .ok (.value v) w) (hT : T w w) (hv : Φ i v w) : o.wp P b w (PhxPost T w Φ i b o.dst) NoQ := by
  unfold Oper.wp; rw [h]; exact ⟨v, rfl, hT, hv⟩
theorem phx_call {f : FuncId} {args : Array Value} (h : (execOp b.eval o).run P w = .ok (.enter f args) w) (hc : Calls P f args w fun e w' => ∃ v, e = .returned v ∧ T w w' ∧ Φ i v w') : o.wp P b w (PhxPost T w Φ i b o.dst) NoQ := by
  unfold Oper.wp; rw [h]
  simp only [Oper.upon]
  refine hc.mono ?_
  rintro e w' ⟨v, rfl, hb, hv⟩
  exact ⟨v, rfl, hb, hv⟩
end
end Go.Proofs.YteliflcbegcdlaaGreatDoor

namespace Go.Proofs.YteliflcbegcdlaaGreatDoor
open Go.RowKit
set_option linter.unusedVariables false
end Go.Proofs.YteliflcbegcdlaaGreatDoor

namespace Go.Proofs.YteliflcbegcdlaaGreatDoor
open Go.RowKit
set_option linter.unusedVariables false
section
variable {α : Type}
/-- v is a slice of the call's own, from block base on, that holds xs -/
def OwnA (e : TypeId) (sz : Nat) (enc : α → List Value) (base : Nat) (w : World) (v : Value) (xs : List α) : Prop := w.ownsRow base e sz v xs.length (xs.flatMap enc)
/-- u is a slice that reads as ys -/
def SlA (enc : α → List Value) (w : World) (u : Value) (ys : List α) : Prop :=
  ∃ A c, u = .slice A ys.length c ∧ ys.length ≤ c ∧ ∀ j q, (ys.flatMap enc)[j]? = some q → ∃ b o, A = some ⟨b, o, none⟩ ∧ w.cell? ⟨b, o + j, none⟩ = some q
/-- the same, whatever the capacity -/
def SlA0 (enc : α → List Value) (w : World) (u : Value) (ys : List α) : Prop :=
  ∃ A c, u = .slice A ys.length c ∧ ∀ j q, (ys.flatMap enc)[j]? = some q → ∃ b o, A = some ⟨b, o, none⟩ ∧ w.cell? ⟨b, o + j, none⟩ = some q
variable {e : TypeId} {sz : Nat} {enc : α → List Value} {base : Nat} {w w' : World} {v u : Value} {xs ys : List α}
theorem OwnA.form (h : OwnA e sz enc base w v xs) : ∃ A c, v = .slice A xs.length c := by
  rcases h.2 with ⟨rfl, h0⟩ | ⟨g, cap, cur, rfl, _⟩
  · exact ⟨none, 0, by rw [h0]⟩
  · exact ⟨_, _, rfl⟩
theorem OwnA.lt (h : OwnA e sz enc base w v xs) : ∀ k, v.ownBlock = some k → k < w.heap.size := by
  intro k hk
  rcases h.2 with ⟨rfl, h0⟩ | ⟨b, cap, cur, rfl, hg, hh, r⟩
  · simp [Value.ownBlock] at hk
  · simp [Value.ownBlock] at hk
    subst hk
    exact (Array.getElem?_eq_some_iff.1 hh).1
theorem OwnA.block (h : OwnA e sz enc base w v xs) : ∀ k, v.ownBlock = some k → base ≤ k := by
  intro k hk
  rcases h.2 with ⟨rfl, h0⟩ | ⟨g, cap, cur, rfl, hg, _⟩
  · simp [Value.ownBlock] at hk
  · simp [Value.ownBlock] at hk; omega
theorem OwnA.keepK (h : OwnA e sz enc base w v xs) (hk : ∀ k, v.ownBlock = some k → w'.heap[k]? = w.heap[k]?) : OwnA e sz enc base w' v xs := by
  refine ⟨h.1, ?_⟩
  rcases h.2 with h0 | ⟨b, cap, cur, rfl, hg, hh, r⟩
  · exact .inl h0
  · exact .inr ⟨b, cap, cur, rfl, hg, (hk b rfl).trans hh, r⟩
theorem OwnA.below (h : OwnA e sz enc base w v xs) (hb : Below w.heap.size w w') : OwnA e sz enc base w' v xs := h.keepK fun k hk => hb.block k (h.lt k hk)
theorem OwnA.alloc (h : OwnA e sz enc base w v xs) (o : Obj) : OwnA e sz enc base (w.alloc o) v xs := h.below ((Below.refl _ _).alloc (Nat.le_refl _) o)
theorem OwnA.low {b2 : Nat} (h : OwnA e sz enc base w v xs) (hb : b2 ≤ base) : OwnA e sz enc b2 w v xs := by
  refine ⟨h.1, ?_⟩
  rcases h.2 with h0 | ⟨g, cap, cur, rfl, hg, r⟩
  · exact .inl h0
  · exact .inr ⟨g, cap, cur, rfl, Nat.le_trans hb hg, r⟩
theorem OwnA.nil (e : TypeId) (sz : Nat) (enc : α → List Value) (base : Nat) (w : World) : OwnA e sz enc base w (.slice none 0 0) [] := ⟨by simp, .inl ⟨rfl, rfl⟩⟩
theorem SlA.below (h : SlA enc w u ys) (hb : Below w.heap.size w w') : SlA enc w' u ys := by
  obtain ⟨A, c, hu, hc, hx⟩ := h
  refine ⟨A, c, hu, hc, fun j q hq => ?_⟩
  obtain ⟨b, o, hA, hcell⟩ := hx j q hq
  exact ⟨b, o, hA, (hb.cell (block_lt_of_cell hcell)).trans hcell⟩
theorem SlA.nil (enc : α → List Value) (w : World) : SlA enc w (.slice none 0 0) ([] : List α) := ⟨none, 0, rfl, Nat.le_refl _, fun j q h => by simp at h⟩
theorem OwnA.sl (h : OwnA e sz enc base w v xs) : SlA enc w v xs := by
  rcases h.2 with ⟨rfl, h0⟩ | ⟨g, cap, cur, rfl, hg, hh, hn, _, hc, ht⟩
  · have : xs = [] := List.eq_nil_of_length_eq_zero h0
    subst this
    exact SlA.nil enc w
  · refine ⟨_, _, rfl, hn, fun j q hq => ⟨g, 0, rfl, ?_⟩⟩
    rw [cell_of_row w g _ cur e (0, 0) hh, Nat.zero_add]
    have h1 : (cur.toList.take (xs.length * sz))[j]? = some q := by rw [ht]; exact hq
    rw [List.getElem?_take] at h1
    split at h1
    · simpa using h1
    · cases h1
/-- a literal in a block of its own -/
theorem OwnA.lit (hsz : ∀ x ∈ xs, (enc x).length = sz) (hb : base ≤ w.heap.size) (hl : xs.length ≤ 1000000) (hn : xs ≠ []) : OwnA e sz enc base (w.alloc (.cells (rowOf (xs.flatMap enc)) e)) (.slice (some ⟨w.heap.size, 0, none⟩) xs.length xs.length) xs := by
  have hlen : (xs.flatMap enc).length = xs.length * sz := by
    clear hl hn
    induction xs with
    | nil => simp
    | cons x xs ih => rw [List.flatMap_cons, List.length_append, ih (fun y hy => hsz y (List.mem_cons_of_mem _ hy)), hsz x (List.mem_cons_self ..), List.length_cons, Nat.succ_mul]; omega
  refine ⟨hlen, .inr ⟨w.heap.size, xs.length, rowOf (xs.flatMap enc), rfl, hb, heap_alloc_new w _, Nat.le_refl _, by unfold maxLen; omega, by unfold rowOf; simp [hlen], ?_⟩⟩
  show List.take (xs.length * sz) (xs.flatMap enc) = _
  exact List.take_of_length_le (by omega)
theorem OwnA.emptyAt {g : Nat} (hb : base ≤ g) (hh : w.heap[g]? = some (.cells #[] e (0, 0))) : OwnA e sz enc base w (.slice (some ⟨g, 0, none⟩) 0 0) ([] : List α) :=
  ⟨by simp, .inr ⟨g, 0, #[], rfl, hb, hh, Nat.le_refl _, by unfold maxLen; omega, by simp, by simp⟩⟩
/-- the run of append(v, u...), with where the result lies -/
theorem run_appA0 {P : Program} {t ty : TypeId} {i : TypeInfo} {z : Value} {bytes : Nat} (ht : P.underlying t = some (.slice e)) (hi : P.info? e = some i) (hz : i.zero = some z) (hs : i.size = sz) (hby : i.bytes = bytes) (hzs : z.cells.size = sz) (hsz0 : 0 < sz) (hb16 : bytes ≤ 64)
    (hsz : ∀ x ∈ ys, (enc x).length = sz) (hone : ∀ x ∈ ys, ∀ q ∈ enc x, q.oneCell' = true)
    (h : OwnA e sz enc base w v xs) (hu : SlA0 enc w u ys) (hlen : xs.length + ys.length ≤ 1000000000) (hbase : base ≤ w.heap.size) :
    ∃ v' w', (Builtin.append_ #[t, t] ty #[v, u]).run P w = .ok v' w' ∧ OwnA e sz enc base w' v' (xs ++ ys) ∧ Below base w w' ∧ (∀ k, k < w.heap.size → v.ownBlock ≠ some k → w'.heap[k]? = w.heap[k]?) ∧ (v'.ownBlock = v.ownBlock ∨ v'.ownBlock = some w.heap.size) := by
  obtain ⟨A, c, rfl, hx⟩ := hu
  have hylen : (ys.flatMap enc).length = ys.length * sz := by
    clear hx hlen hone
    induction ys with
    | nil => simp
    | cons x xs ih => rw [List.flatMap_cons, List.length_append, ih (fun y hy => hsz y (List.mem_cons_of_mem _ hy)), hsz x (List.mem_cons_self ..), List.length_cons, Nat.succ_mul]; omega
  cases A with
  | none =>
    have hy : ys = [] := by
      cases ys with
      | nil => rfl
      | cons y ys =>
        exfalso
        have h0 : 0 < ((y :: ys).flatMap enc).length := by rw [hylen, List.length_cons]; exact Nat.mul_pos (by omega) hsz0
        obtain ⟨b, o, hA, _⟩ := hx 0 _ (List.getElem?_eq_getElem h0)
        cases hA
    subst hy
    refine ⟨v, w, ?_, by simpa using h, Below.refl _ _, fun _ _ _ => rfl, .inl rfl⟩
    rcases h.2 with ⟨rfl, h0⟩ | ⟨g, cap, cur, rfl, _, _, hnc, _⟩
    · simp [Builtin.append_, run_underlying ht, sizeOf, typeInfo, hi, Builtin.lenOf, Builtin.firstCells]
    · simp [Builtin.append_, run_underlying ht, sizeOf, typeInfo, hi, Builtin.lenOf, Builtin.firstCells, hnc, storeCells]
  | some ad =>
    have hcells : ∀ j q, (ys.flatMap enc)[j]? = some q → w.cell? (ad.add j) = some q := by
      intro j q hq
      obtain ⟨b, o, hA, hcell⟩ := hx j q hq
      injection hA with hA
      subst hA
      have : (⟨b, o, none⟩ : Addr).add j = ⟨b, o + j, none⟩ := by unfold Addr.add; split <;> simp_all
      rw [this]; exact hcell
    obtain ⟨v', w', hrun, h2, h3, _, h5⟩ := run_append_own_at (P := P) w base t ty e i z sz bytes ht hi hz hs hby hzs hsz0 v xs.length (xs.flatMap enc) h ad ys.length c (ys.flatMap enc) hylen hcells
      (by intro q hq; obtain ⟨y, hy, hq2⟩ := List.mem_flatMap.1 hq; exact hone y hy q hq2) (by unfold maxLen; omega) (Nat.le_trans (Nat.mul_le_mul hlen hb16) (by omega)) hbase
    refine ⟨v', w', hrun, ?_, (Below.refl _ _).grown h3 hbase h.block, fun k hk hne => h3.block k hk (fun e => hne e.symm), h5⟩
    unfold OwnA
    rw [List.length_append, List.flatMap_append]
    exact h2
theorem append_typesA {P : Program} {t t2 ty : TypeId} (ht : P.underlying t = some (.slice e)) (ht2 : P.underlying t2 = some (.slice e)) : (Builtin.append_ #[t, t2] ty #[v, u]).run P w = (Builtin.append_ #[t, t] ty #[v, u]).run P w := by
  unfold Builtin.append_
  cases v <;> simp [run_underlying ht, run_underlying ht2, Sem.run_bind]
/-- what a kind of element owes -/
structure ElA (P : Program) (e : TypeId) (sz : Nat) (enc : α → List Value) : Prop where
  ex : ∃ i z bytes, P.info? e = some i ∧ i.zero = some z ∧ i.size = sz ∧ i.bytes = bytes ∧ z.cells.size = sz ∧ bytes ≤ 64
  pos : 0 < sz
  len : ∀ x, (enc x).length = sz
  one : ∀ x, ∀ q ∈ enc x, q.oneCell' = true
theorem wp_appA0 {P : Program} {o : Oper} {a : Act} {K : Act → World → Prop} {Q : Exit → Act → World → Prop} (E : ElA P e sz enc) (s x : Operand) (t t2 : TypeId) (ho : o.op = .call { callee := .builtin .append, args := #[s, x], argTypes := #[t, t2] })
    (ht : P.underlying t = some (.slice e)) (ht2 : P.underlying t2 = some (.slice e))
    (hv : a.eval s = v) (h : OwnA e sz enc base w v xs) (hx : a.eval x = u) (hu : SlA0 enc w u ys) (hlen : xs.length + ys.length ≤ 1000000000) (hbase : base ≤ w.heap.size)
    (hK : ∀ v' w', OwnA e sz enc base w' v' (xs ++ ys) → Below base w w' → (∀ k, k < w.heap.size → v.ownBlock ≠ some k → w'.heap[k]? = w.heap[k]?) → (v'.ownBlock = v.ownBlock ∨ v'.ownBlock = some w.heap.size) → K (a.put o.dst v') w') : o.wp P a w K Q := by
  obtain ⟨i, z, bytes, hi, hz, hs, hby, hzs, hb⟩ := E.ex
  obtain ⟨v', w', hrun, h1, h2, h3, h4⟩ := run_appA0 (P := P) (ty := o.type) ht hi hz hs hby hzs E.pos hb (fun x _ => E.len x) (fun x _ => E.one x) h hu hlen hbase
  unfold Oper.wp execOp
  simp only [ho, resolve, invoke, builtin, Sem.run_bind, Sem.run_pure, Result.andThen_ok, List.map_toArray, List.map_cons, List.map_nil, hv, hx, (append_typesA ht ht2).trans hrun]
  exact hK v' w' h1 h2 h3 h4
theorem wpList_appA0 {P : Program} {ops : Array Oper} {rest : List Oper} {o : Oper} {a : Act} {Q : Exit → Act → World → Prop} (hgd : o.guard = none) (E : ElA P e sz enc) (s x : Operand) (t t2 : TypeId) (ho : o.op = .call { callee := .builtin .append, args := #[s, x], argTypes := #[t, t2] })
    (ht : P.underlying t = some (.slice e)) (ht2 : P.underlying t2 = some (.slice e))
    (hv : a.eval s = v) (h : OwnA e sz enc base w v xs) (hx : a.eval x = u) (hu : SlA0 enc w u ys) (hlen : xs.length + ys.length ≤ 1000000000) (hbase : base ≤ w.heap.size)
    (hK : ∀ v' w', OwnA e sz enc base w' v' (xs ++ ys) → Below base w w' → (∀ k, k < w.heap.size → v.ownBlock ≠ some k → w'.heap[k]? = w.heap[k]?) → (v'.ownBlock = v.ownBlock ∨ v'.ownBlock = some w.heap.size) → wpList P ops Q rest (a.put o.dst v') w') : wpList P ops Q (o :: rest) a w :=
  wpList_plain hgd fun _ hk => wp_appA0 E s x t t2 ho ht ht2 hv h hx hu hlen hbase fun v' w' h1 h2 h3 h4 => hk _ _ (hK v' w' h1 h2 h3 h4)
end
section
variable {α : Type} {e : TypeId} {sz : Nat} {enc : α → List Value} {B : Nat} {w0 w w' : World} {ev : Nat → Option Value} {S : List (Nat × Nat × List α)} {c cu f : Nat} {LF LIT : List α} {D : Nat → Bool} {x : Nat → Value}
end
end Go.Proofs.YteliflcbegcdlaaGreatDoor

namespace Go.Proofs.YteliflcbegcdlaaGreatDoor
open Go.RowKit
set_option linter.unusedVariables false
section
variable {α : Type}
variable {e : TypeId} {sz : Nat} {enc : α → List Value} {B : Nat} {w0 w w' : World} {ev : Nat → Option Value} {c a f : Nat} {v0 : Value} {p : Addr} {L LIT : List α} {D : Nat → Bool} {x : Nat → Value}
end
end Go.Proofs.YteliflcbegcdlaaGreatDoor

namespace Go.Proofs.YteliflcbegcdlaaGreatDoor
open Go.RowKit
set_option linter.unusedVariables false
theorem mod_app {α : Type} (f : α → α) (x : α) : ∀ l : List α, (l ++ [x]).modify l.length f = l ++ [f x]
  | [] => rfl
  | a :: t => by
    have := mod_app f x t
    simpa using this
def kyS (k : List UInt8) : Value := .string ⟨k.toArray⟩
theorem kyS_inj {k k' : List UInt8} (h : kyS k = kyS k') : k = k' := by
  unfold kyS at h
  injection h with h
  injection h with h
  exact Array.toList_inj.2 h |> fun e => by simpa using e
/-- the map in block b has the entries L, in this order; ck: its clock -/
def MpS (w : World) (b : Nat) (L : List (List UInt8 × Value)) (ck : Nat) : Prop :=
  ∃ es : Array MapEntry, w.heap[b]? = some (.map es ck) ∧ es.toList.map (fun e => (e.key, e.val)) = L.map (fun p => (kyS p.1, p.2)) ∧ ∀ x ∈ es.toList, x.born < ck
/-- an entry k has been made and waits for its value -/
def MpP (w : World) (b : Nat) (L : List (List UInt8 × Value)) (k : List UInt8) (ck : Nat) : Prop :=
  ∃ (es : Array MapEntry) (z : Value), w.heap[b]? = some (.map (es.push { key := kyS k, val := z, born := ck }) (ck + 1)) ∧ es.toList.map (fun e => (e.key, e.val)) = L.map (fun p => (kyS p.1, p.2)) ∧ ∀ x ∈ es.toList, x.born < ck
theorem MpS.keep {w w' : World} {b : Nat} {L : List (List UInt8 × Value)} {ck : Nat} (h : MpS w b L ck) (k : w'.heap[b]? = w.heap[b]?) : MpS w' b L ck := by
  obtain ⟨es, h1, h2, h3⟩ := h
  exact ⟨es, k.trans h1, h2, h3⟩
theorem MpP.keep {w w' : World} {b : Nat} {L : List (List UInt8 × Value)} {k : List UInt8} {ck : Nat} (h : MpP w b L k ck) (kk : w'.heap[b]? = w.heap[b]?) : MpP w' b L k ck := by
  obtain ⟨es, z, h1, h2, h3⟩ := h
  exact ⟨es, z, kk.trans h1, h2, h3⟩
theorem MpS.lt {w : World} {b : Nat} {L : List (List UInt8 × Value)} {ck : Nat} (h : MpS w b L ck) : b < w.heap.size := by
  obtain ⟨es, h1, _⟩ := h
  exact (Array.getElem?_eq_some_iff.1 h1).1
theorem MpS.new (w : World) : MpS (w.alloc (.map #[] 0)) w.heap.size [] 0 := ⟨#[], MapKept.heap_alloc w _ |>.1, rfl, fun x hx => by simp at hx⟩
section
variable {P : Program} {w : World} {b : Nat} {L : List (List UInt8 × Value)} {ck : Nat} {t kt et : TypeId} {k : List UInt8}
theorem MpS.keys {es : Array MapEntry} (h2 : es.toList.map (fun e => (e.key, e.val)) = L.map (fun p => (kyS p.1, p.2))) : (∀ x ∈ es.toList, MapKept.IsKey .string x.key) ∧ ∀ (j : Nat) (e : MapEntry), es.toList[j]? = some e → ∃ p : List UInt8 × Value, L[j]? = some p ∧ e.key = kyS p.1 ∧ e.val = p.2 := by
  have h : ∀ (j : Nat) (e : MapEntry), es.toList[j]? = some e → ∃ p : List UInt8 × Value, L[j]? = some p ∧ e.key = kyS p.1 ∧ e.val = p.2 := fun j e hj => by
    have h3 := congrArg (fun l => l[j]?) h2
    simp only [List.getElem?_map, hj, Option.map_some] at h3
    cases hL : L[j]? with
    | none => rw [hL] at h3; cases h3
    | some p =>
      rw [hL] at h3
      injection h3 with h3
      injection h3 with a b
      exact ⟨p, rfl, a, b⟩
  refine ⟨fun x hx => ?_, h⟩
  obtain ⟨j, hj⟩ := List.getElem?_of_mem hx
  obtain ⟨p, _, e, _⟩ := h j x hj
  rw [e]; exact trivial
theorem mps_lookup_no (h : MpS w b L ck) (hm : P.underlying t = some (.map kt et)) (hd : P.underlying kt = some .string) {z : Value} (hz : (zeroValue et).run P w = .ok z w) (hk : ∀ p ∈ L, p.1 ≠ k) :
    Sem.run P (Instr.lookup t (.map (some b)) (kyS k) true) w = .ok (.tuple #[z, .bool false]) w := by
  obtain ⟨es, h1, h2, _⟩ := h
  obtain ⟨a1, a2⟩ := MpS.keys h2
  rcases MapKept.findNow_spec (d := .string) (k := kyS k) trivial es.toList 0 a1 with ⟨e1, _⟩ | ⟨j, e, e1, e2, e3⟩
  · simp [Instr.lookup, run_underlying hm, MapKept.run_getObj_map h1, MapKept.run_checkKey hd (k := kyS k) trivial, MapKept.run_findKey hd e1, hz, Result.andThen]
  · obtain ⟨p, hp, e4, _⟩ := a2 j e e2
    rw [e4] at e3
    exact absurd (kyS_inj e3) (hk p (List.mem_of_getElem? hp))
theorem mps_lookup_yes (h : MpS w b L ck) (hm : P.underlying t = some (.map kt et)) (hd : P.underlying kt = some .string) (hn : (L.map (·.1)).Nodup) {v : Value} (hk : (k, v) ∈ L) :
    Sem.run P (Instr.lookup t (.map (some b)) (kyS k) true) w = .ok (.tuple #[v, .bool true]) w ∧ Sem.run P (Instr.lookup t (.map (some b)) (kyS k) false) w = .ok v w := by
  obtain ⟨es, h1, h2, _⟩ := h
  obtain ⟨a1, a2⟩ := MpS.keys h2
  rcases MapKept.findNow_spec (d := .string) (k := kyS k) trivial es.toList 0 a1 with ⟨e1, e0⟩ | ⟨j, e, e1, e2, e3⟩
  · exfalso
    obtain ⟨j, hj⟩ := List.getElem?_of_mem hk
    have hl : es.toList.length = L.length := by have := congrArg List.length h2; simpa using this
    have hjl : j < es.toList.length := by rw [hl]; exact (List.getElem?_eq_some_iff.1 hj).1
    obtain ⟨p, hp, e4, _⟩ := a2 j _ (List.getElem?_eq_getElem hjl)
    rw [hj] at hp
    injection hp with hp
    subst hp
    exact e0 _ (List.getElem_mem hjl) e4
  · obtain ⟨p, hp, e4, e5⟩ := a2 j e e2
    rw [e4] at e3
    have hpk := kyS_inj e3
    have hpe : p = (k, v) := by
      obtain ⟨i, hi⟩ := List.getElem?_of_mem hk
      have hij : i = j := by
        have hi1 : i < (L.map (·.1)).length := by rw [List.length_map]; exact (List.getElem?_eq_some_iff.1 hi).1
        have hj1 : j < (L.map (·.1)).length := by rw [List.length_map]; exact (List.getElem?_eq_some_iff.1 hp).1
        refine (List.getElem_inj (h₀ := hi1) (h₁ := hj1) hn).1 ?_
        obtain ⟨_, q1⟩ := List.getElem?_eq_some_iff.1 hi
        obtain ⟨_, q2⟩ := List.getElem?_eq_some_iff.1 hp
        rw [List.getElem_map, List.getElem_map, q1, q2, hpk]
      rw [hij, hp] at hi
      injection hi
    rw [e5, hpe] at e1
    constructor
    · simp [Instr.lookup, run_underlying hm, MapKept.run_getObj_map h1, MapKept.run_checkKey hd (k := kyS k) trivial, MapKept.run_findKey hd e1, Result.andThen]
    · simp [Instr.lookup, run_underlying hm, MapKept.run_getObj_map h1, MapKept.run_checkKey hd (k := kyS k) trivial, MapKept.run_findKey hd e1, Result.andThen]
theorem mps_entry (h : MpS w b L ck) (hm : P.underlying t = some (.map kt et)) (hd : P.underlying kt = some .string) {z : Value} (hz : (zeroValue et).run P w = .ok z w) (hk : ∀ p ∈ L, p.1 ≠ k) :
    ∃ w', Sem.run P (Instr.mapEntry t (.map (some b)) (kyS k)) w = .ok (.tuple #[z, goInt ck]) w' ∧ MpP w' b L k ck ∧ (∀ r, r ≠ b → w'.heap[r]? = w.heap[r]?) ∧ w'.heap.size = w.heap.size ∧ (∀ B, B ≤ b → Below B w w') := by
  obtain ⟨es, h1, h2, h3⟩ := h
  obtain ⟨a1, a2⟩ := MpS.keys h2
  rcases MapKept.findNow_spec (d := .string) (k := kyS k) trivial es.toList 0 a1 with ⟨e1, _⟩ | ⟨j, e, e1, e2, e3⟩
  · refine ⟨{ w with heap := w.heap.setIfInBounds b (.map (es.push { key := kyS k, val := z, born := ck }) (ck + 1)) }, ?_, ⟨es, z, (MapKept.heap_set h1).1, h2, h3⟩, fun r hr => (MapKept.heap_set h1).2 r hr, by simp, fun B hB => ⟨rfl, rfl, rfl, by simp, fun r hr => (MapKept.heap_set h1).2 r (by omega)⟩⟩
    simp [Instr.mapEntry, run_underlying hm, MapKept.run_getObj_map h1, MapKept.run_checkKey hd (k := kyS k) trivial, MapKept.run_findKey hd e1, hz, MapKept.run_setObj_map _ h1, Result.andThen]
  · obtain ⟨p, hp, e4, _⟩ := a2 j e e2
    rw [e4] at e3
    exact absurd (kyS_inj e3) (hk p (List.mem_of_getElem? hp))
theorem mps_store (h : MpP w b L k ck) (v : Value) :
    ∃ w', Sem.run P (Instr.entryStore t (.map (some b)) (goInt ck) v) w = .ok () w' ∧ MpS w' b (L ++ [(k, v)]) (ck + 1) ∧ (∀ r, r ≠ b → w'.heap[r]? = w.heap[r]?) ∧ w'.heap.size = w.heap.size ∧ (∀ B, B ≤ b → Below B w w') := by
  obtain ⟨es, z, h1, h2, h3⟩ := h
  have hf : (es.push { key := kyS k, val := z, born := ck }).findIdx? (fun e => (e.born : Int) == (ck : Int)) = some es.size := by
    rw [Array.findIdx?_push]
    have : es.findIdx? (fun e => (e.born : Int) == (ck : Int)) = none := by
      rw [Array.findIdx?_eq_none_iff]
      intro x hx
      have := h3 x (by simpa using hx)
      simp; omega
    rw [this]; simp
  refine ⟨{ w with heap := w.heap.setIfInBounds b (.map ((es.push { key := kyS k, val := z, born := ck }).modify es.size fun e => { e with val := v }) (ck + 1)) }, ?_, ⟨_, (MapKept.heap_set h1).1, ?_, ?_⟩, fun r hr => (MapKept.heap_set h1).2 r hr, by simp, fun B hB => ⟨rfl, rfl, rfl, by simp, fun r hr => (MapKept.heap_set h1).2 r (by omega)⟩⟩
  · simp only [Instr.entryStore, Sem.run_bind, MapKept.run_getObj_map h1, Result.andThen]
    simp [goInt, asInt, asIntOf, hf, MapKept.run_setObj_map _ h1, Result.andThen]
  · have e : ((es.push { key := kyS k, val := z, born := ck }).modify es.size fun e => { e with val := v }).toList = es.toList ++ [{ key := kyS k, val := v, born := ck }] := by
      rw [Array.toList_modify, Array.toList_push, ← Array.length_toList, mod_app]
    rw [e, List.map_append, List.map_append, h2]; rfl
  · intro x hx
    have e : ((es.push { key := kyS k, val := z, born := ck }).modify es.size fun e => { e with val := v }).toList = es.toList ++ [{ key := kyS k, val := v, born := ck }] := by
      rw [Array.toList_modify, Array.toList_push, ← Array.length_toList, mod_app]
    rw [e] at hx
    rcases List.mem_append.1 hx with q | q
    · have := h3 x q; omega
    · rw [List.mem_singleton.1 q]; simp
end
end Go.Proofs.YteliflcbegcdlaaGreatDoor

namespace Go.Proofs.YteliflcbegcdlaaGreatDoor
set_option linter.unusedVariables false
/-- a sum -/
def sumI : Nat → (Nat → Int) → Int
  | 0, _ => 0
  | c + 1, f => sumI c f + f c
theorem sumI_congr {C : Nat} {f g : Nat → Int} (h : ∀ l, l < C → f l = g l) : sumI C f = sumI C g := by
  induction C with
  | zero => rfl
  | succ c ih => rw [sumI, sumI, ih (fun l hl => h l (by omega)), h c (by omega)]
theorem sumI_one {C j : Nat} {f g : Nat → Int} (hj : j < C) (h : ∀ l, l < C → l ≠ j → f l = g l) : sumI C f = sumI C g + (f j - g j) := by
  induction C with
  | zero => omega
  | succ c ih =>
    rw [sumI, sumI]
    by_cases e : j = c
    · subst e
      rw [sumI_congr (f := f) (g := g) (fun l hl => h l (by omega) (by omega))]; omega
    · rw [ih (by omega) (fun l hl hne => h l (by omega) hne), h c (by omega) (fun q => e q.symm)]; omega
theorem sumI_two {C j k : Nat} {f g : Nat → Int} (hj : j < C) (hk : k < C) (hjk : j ≠ k) (h : ∀ l, l < C → l ≠ j → l ≠ k → f l = g l) : sumI C f = sumI C g + (f j - g j) + (f k - g k) := by
  have h1 := sumI_one (f := f) (g := fun l => if l = k then f k else g l) hj (fun l hl hne => by
    show f l = if l = k then f k else g l
    by_cases e : l = k
    · rw [if_pos e, e]
    · rw [if_neg e]; exact h l hl hne e)
  have h2 := sumI_one (f := fun l => if l = k then f k else g l) (g := g) hk (fun l hl hne => by
    show (if l = k then f k else g l) = g l
    rw [if_neg hne])
  simp only [if_neg hjk, if_pos] at h1 h2
  rw [h1, h2]; omega
theorem sumI_mul {C : Nat} (f : Nat → Int) (b : Int) : sumI C (fun l => b * f l) = b * sumI C f := by
  induction C with
  | zero => simp [sumI]
  | succ c ih => simp only [sumI]; rw [ih, Int.mul_add]
theorem sumI_zero {C : Nat} : sumI C (fun _ => 0) = 0 := by
  induction C with
  | zero => rfl
  | succ c ih => rw [sumI, ih]; rfl
theorem sumI_single {C j : Nat} {f : Nat → Int} (hj : j < C) (h : ∀ l, l < C → l ≠ j → f l = 0) : sumI C f = f j := by
  have := sumI_one (f := f) (g := fun _ => 0) hj h
  rw [sumI_zero] at this
  omega
theorem sumI_plus {C : Nat} (f g : Nat → Int) : sumI C (fun l => f l + g l) = sumI C f + sumI C g := by
  induction C with
  | zero => simp [sumI]
  | succ c ih => simp only [sumI]; rw [ih]; omega
theorem sumI_swap (n r : Nat) (F : Nat → Nat → Int) : sumI n (fun i => sumI r (fun k => F i k)) = sumI r (fun k => sumI n (fun i => F i k)) := by
  induction n with
  | zero => simp only [sumI]; rw [sumI_zero]
  | succ n ih => simp only [sumI]; rw [ih, sumI_plus]
end Go.Proofs.YteliflcbegcdlaaGreatDoor

namespace Go.Proofs.YteliflcbegcdlaaGreatDoor
set_option linter.unusedVariables false
def skp (k l : Nat) : Nat := if l < k then l else l + 1
def sgn (k : Nat) : Int := if k % 2 = 0 then 1 else -1
theorem sgn_succ (k : Nat) : sgn (k + 1) = - sgn k := by
  unfold sgn
  by_cases h : k % 2 = 0
  · rw [if_pos h, if_neg (by omega)]
  · rw [if_neg h, if_pos (by omega)]; rfl
/-- the determinant of the first rows of f, as many as there are columns -/
def dt : List Nat → (Nat → Nat → Int) → Int
  | [], _ => 1
  | j :: J, f => sumI (J.length + 1) (fun k => sgn k * f k j * dt J (fun l => f (skp k l)))
/-- row k becomes u -/
def fup (f : Nat → Nat → Int) (k : Nat) (u : Nat → Int) : Nat → Nat → Int := fun l => if l = k then u else f l
theorem dt_congr : ∀ {J : List Nat} {f g : Nat → Nat → Int}, (∀ l, l < J.length → ∀ j ∈ J, f l j = g l j) → dt J f = dt J g
  | [], f, g, _ => rfl
  | j :: J, f, g, h => by
    rw [dt, dt]
    refine sumI_congr (fun k hk => ?_)
    rw [h k (by simpa using hk) j (by simp), dt_congr (J := J) (f := fun l => f (skp k l)) (g := fun l => g (skp k l)) (fun l hl i hi => h (skp k l) (by unfold skp; simp only [List.length_cons]; split <;> omega) i (by simp [hi]))]
theorem fup_skp_same (f : Nat → Nat → Int) (k : Nat) (u : Nat → Int) : (fun l => fup f k u (skp k l)) = fun l => f (skp k l) := by
  funext l
  unfold fup
  rw [if_neg (by unfold skp; split <;> omega)]
/-- where row k has gone when row l is struck -/
def usk (l k : Nat) : Nat := if k < l then k else k - 1
theorem fup_skp_ne (f : Nat → Nat → Int) {k l : Nat} (h : l ≠ k) (u : Nat → Int) : (fun i => fup f k u (skp l i)) = fup (fun i => f (skp l i)) (usk l k) u := by
  funext i
  show (if skp l i = k then u else f (skp l i)) = if i = usk l k then u else f (skp l i)
  have e : (skp l i = k) = (i = usk l k) := by
    unfold skp usk
    apply propext
    split <;> split <;> omega
  simp only [e]
theorem sumI_add {C : Nat} (f g : Nat → Int) (c : Int) : sumI C (fun l => f l + c * g l) = sumI C f + c * sumI C g := by
  induction C with
  | zero => simp [sumI]
  | succ n ih => simp only [sumI]; rw [ih, Int.mul_add]; omega
/-- linear in each row -/
theorem dt_lin : ∀ {J : List Nat} {f : Nat → Nat → Int} {k : Nat} (u v : Nat → Int) (c : Int), k < J.length → dt J (fup f k (fun j => u j + c * v j)) = dt J (fup f k u) + c * dt J (fup f k v)
  | [], f, k, u, v, c, h => by simp at h
  | j :: J, f, k, u, v, c, h => by
    rw [dt, dt, dt, ← sumI_add]
    refine sumI_congr (fun l hl => ?_)
    show sgn l * fup f k (fun j => u j + c * v j) l j * dt J (fun i => fup f k (fun j => u j + c * v j) (skp l i)) = sgn l * fup f k u l j * dt J (fun i => fup f k u (skp l i)) + c * (sgn l * fup f k v l j * dt J (fun i => fup f k v (skp l i)))
    by_cases e : l = k
    · subst e
      rw [fup_skp_same, fup_skp_same, fup_skp_same]
      simp only [fup, if_pos]
      generalize dt J (fun i => f (skp l i)) = d
      rw [Int.mul_add, Int.add_mul, Int.mul_left_comm (sgn l) c, Int.mul_assoc c]
    · have hk : usk l k < J.length := by unfold usk; simp only [List.length_cons] at h hl; split <;> omega
      rw [fup_skp_ne f e, fup_skp_ne f e, fup_skp_ne f e, dt_lin u v c hk]
      simp only [fup, if_neg e]
      generalize sgn l * f l j = s
      rw [Int.mul_add, Int.mul_left_comm]
theorem dt_zero {J : List Nat} {f : Nat → Nat → Int} {k : Nat} (h : k < J.length) : dt J (fup f k (fun _ => 0)) = 0 := by
  have h1 := dt_lin (f := f) (fun _ => 0) (fun _ => 0) (-1) h
  have h2 : (fun j : Nat => (0 : Int) + -1 * 0) = fun _ => 0 := by funext; rfl
  rw [h2] at h1
  omega
theorem dt_mul {J : List Nat} {f : Nat → Nat → Int} {k : Nat} (v : Nat → Int) (c : Int) (h : k < J.length) : dt J (fup f k (fun j => c * v j)) = c * dt J (fup f k v) := by
  have h1 := dt_lin (f := f) (fun _ => 0) v c h
  have h2 : (fun j : Nat => (0 : Int) + c * v j) = fun j => c * v j := by funext; simp
  rw [h2, dt_zero h] at h1
  omega
/-- two neighbours that are alike -/
theorem dt_adj : ∀ {J : List Nat} {f : Nat → Nat → Int} {k : Nat}, k + 1 < J.length → (∀ j ∈ J, f k j = f (k + 1) j) → dt J f = 0
  | [], f, k, h, _ => by simp at h
  | j :: J, f, k, h, he => by
    simp only [List.length_cons] at h
    rw [dt]
    have h0 := sumI_two (C := J.length + 1) (j := k) (k := k + 1) (f := fun l => sgn l * f l j * dt J (fun i => f (skp l i))) (g := fun _ => 0) (by omega) (by omega) (by omega) (fun l hl h1 h2 => by
      show sgn l * f l j * dt J (fun i => f (skp l i)) = 0
      have hz : dt J (fun i => f (skp l i)) = 0 := by
        by_cases q : l < k
        · refine dt_adj (J := J) (k := k - 1) (by omega) (fun i hi => ?_)
          show f (skp l (k - 1)) i = f (skp l (k - 1 + 1)) i
          unfold skp
          rw [if_neg (by omega), if_neg (by omega), show k - 1 + 1 = k by omega]
          exact he i (by simp [hi])
        · refine dt_adj (J := J) (k := k) (by omega) (fun i hi => ?_)
          show f (skp l k) i = f (skp l (k + 1)) i
          unfold skp
          rw [if_pos (by omega), if_pos (by omega)]
          exact he i (by simp [hi])
      rw [hz, Int.mul_zero])
    rw [h0, sumI_zero]
    have e1 : dt J (fun i => f (skp (k + 1) i)) = dt J (fun i => f (skp k i)) := dt_congr (fun l hl i hi => by
      show f (skp (k + 1) l) i = f (skp k l) i
      unfold skp
      by_cases q : l < k
      · rw [if_pos q, if_pos (by omega)]
      · by_cases q2 : l = k
        · subst q2
          rw [if_pos (by omega), if_neg (by omega)]
          exact he i (by simp [hi])
        · rw [if_neg (by omega), if_neg (by omega)])
    show 0 + (sgn k * f k j * dt J (fun i => f (skp k i)) - 0) + (sgn (k + 1) * f (k + 1) j * dt J (fun i => f (skp (k + 1) i)) - 0) = 0
    rw [e1, sgn_succ, ← he j (by simp), Int.neg_mul, Int.neg_mul]
    omega
theorem fup_self (f : Nat → Nat → Int) (k : Nat) : fup f k (f k) = f := by
  funext l; unfold fup; split
  · next e => rw [e]
  · rfl
theorem fup_comm (f : Nat → Nat → Int) {k l : Nat} (h : k ≠ l) (u v : Nat → Int) : fup (fup f k u) l v = fup (fup f l v) k u := by
  funext i; unfold fup
  by_cases e1 : i = l
  · by_cases e2 : i = k
    · omega
    · rw [if_pos e1, if_neg e2, if_pos e1]
  · rw [if_neg e1]
    by_cases e2 : i = k
    · rw [if_pos e2, if_pos e2]
    · rw [if_neg e2, if_neg e2, if_neg e1]
/-- neighbours change places -/
theorem dt_swap_adj {J : List Nat} {f : Nat → Nat → Int} {k : Nat} (h : k + 1 < J.length) : dt J (fup (fup f k (f (k + 1))) (k + 1) (f k)) = - dt J f := by
  have hk : k < J.length := by omega
  have hne : k ≠ k + 1 := by omega
  generalize hu : f k = u
  generalize hv : f (k + 1) = v
  have z : dt J (fup (fup f k (fun j => u j + 1 * v j)) (k + 1) (fun j => u j + 1 * v j)) = 0 := dt_adj h (fun j _ => by
    simp only [fup, if_neg hne, if_pos])
  have zu : dt J (fup (fup f k u) (k + 1) u) = 0 := dt_adj h (fun j _ => by simp only [fup, if_neg hne, if_pos])
  have zv : dt J (fup (fup f k v) (k + 1) v) = 0 := dt_adj h (fun j _ => by simp only [fup, if_neg hne, if_pos])
  rw [dt_lin u v 1 h, fup_comm f hne, dt_lin u v 1 hk, fup_comm f hne (fun j => u j + 1 * v j), dt_lin u v 1 hk, fup_comm f hne.symm, fup_comm f hne.symm, fup_comm f hne.symm, fup_comm f hne.symm] at z
  rw [zu, zv] at z
  have e : fup (fup f k u) (k + 1) v = f := by rw [← hu, ← hv, fup_self, fup_self]
  rw [e] at z
  omega
/-- two rows that are alike -/
theorem dt_same : ∀ (d : Nat) {J : List Nat} {f : Nat → Nat → Int} {a : Nat}, a + 1 + d < J.length → (∀ j, f a j = f (a + 1 + d) j) → dt J f = 0
  | 0, J, f, a, h, he => dt_adj h (fun j _ => he j)
  | d + 1, J, f, a, h, he => by
    have hs := dt_swap_adj (J := J) (f := f) (k := a + 1 + d) (by omega)
    have hz := dt_same d (J := J) (f := fup (fup f (a + 1 + d) (f (a + 1 + d + 1))) (a + 1 + d + 1) (f (a + 1 + d))) (a := a) (by omega) (fun j => by
      simp only [fup]
      rw [if_neg (by omega), if_neg (by omega), if_neg (by omega), if_pos True.intro]
      exact he j)
    rw [hz] at hs
    omega
theorem dt_alike {J : List Nat} {f : Nat → Nat → Int} {a b : Nat} (ha : a < J.length) (hb : b < J.length) (hab : a ≠ b) (he : ∀ j, f a j = f b j) : dt J f = 0 := by
  rcases Nat.lt_or_ge a b with q | q
  · exact dt_same (b - (a + 1)) (a := a) (by omega) (fun j => by rw [show a + 1 + (b - (a + 1)) = b by omega]; exact he j)
  · exact dt_same (a - (b + 1)) (a := b) (by omega) (fun j => by rw [show b + 1 + (a - (b + 1)) = a by omega]; exact (he j).symm)
/-- a multiple of another row is added -/
theorem dt_addmul {J : List Nat} {f : Nat → Nat → Int} {a b : Nat} (ha : a < J.length) (hb : b < J.length) (hab : a ≠ b) (c : Int) : dt J (fup f b (fun j => f b j + c * f a j)) = dt J f := by
  rw [dt_lin (f b) (f a) c hb, fup_self]
  have : dt J (fup f b (f a)) = 0 := dt_alike ha hb hab (fun j => by simp only [fup, if_neg hab, if_pos])
  rw [this]; omega
end Go.Proofs.YteliflcbegcdlaaGreatDoor

namespace Go.Proofs.YteliflcbegcdlaaGreatDoor
set_option linter.unusedVariables false
/-- columns that are renamed -/
theorem dt_map (τ : Nat → Nat) : ∀ (J : List Nat) (f : Nat → Nat → Int), dt (J.map τ) f = dt J (fun l j => f l (τ j))
  | [], f => rfl
  | j :: J, f => by
    rw [List.map_cons, dt, dt, List.length_map]
    refine sumI_congr (fun k _ => ?_)
    show sgn k * f k (τ j) * dt (J.map τ) (fun l => f (skp k l)) = sgn k * f k (τ j) * dt J (fun l j => f (skp k l) (τ j))
    rw [dt_map τ J]
end Go.Proofs.YteliflcbegcdlaaGreatDoor

namespace Go.Proofs.YteliflcbegcdlaaGreatDoor
set_option linter.unusedVariables false
theorem sumI_frontT (f : Nat → Int) : ∀ c : Nat, sumI (c + 1) f = f 0 + sumI c (fun k => f (k + 1))
  | 0 => by simp [sumI]
  | c + 1 => by rw [sumI, sumI_frontT f c, sumI]; omega
theorem skp_s0 (k : Nat) : skp (k + 1) 0 = 0 := by simp [skp]
theorem skp_s1 (k l : Nat) : skp (k + 1) (l + 1) = skp k l + 1 := by unfold skp; split <;> split <;> omega
/-- Laplace by the first row -/
theorem dt_row : ∀ (J : List Nat) (f : Nat → Nat → Int), J ≠ [] → dt J f = sumI J.length (fun p => sgn p * f 0 (J[p]?.getD 0) * dt (J.eraseIdx p) (fun l => f (l + 1)))
  | [], f, h => absurd rfl h
  | j :: J, f, _ => by
    have e1 : ∀ k, k < J.length → sgn (k + 1) * f (k + 1) j * dt J (fun l => f (skp (k + 1) l)) = sumI J.length (fun p => -(sgn k * sgn p * f (k + 1) j * f 0 (J[p]?.getD 0) * dt (J.eraseIdx p) (fun l => f (skp k l + 1)))) := by
      intro k hk
      rw [dt_row J _ (fun e => by rw [e] at hk; exact absurd hk (by simp)), ← sumI_mul]
      refine sumI_congr fun p hp => ?_
      simp only [skp_s0, skp_s1, sgn_succ]
      grind
    have e2 : ∀ p, p < J.length → sgn (p + 1) * f 0 ((j :: J)[p + 1]?.getD 0) * dt ((j :: J).eraseIdx (p + 1)) (fun l => f (l + 1)) = sumI J.length (fun k => -(sgn k * sgn p * f (k + 1) j * f 0 (J[p]?.getD 0) * dt (J.eraseIdx p) (fun l => f (skp k l + 1)))) := by
      intro p hp
      rw [List.eraseIdx_cons_succ, dt, List.length_eraseIdx_of_lt hp, show J.length - 1 + 1 = J.length by omega, ← sumI_mul]
      refine sumI_congr fun k hk => ?_
      rw [sgn_succ, List.getElem?_cons_succ]
      grind
    rw [dt, List.length_cons, sumI_frontT, sumI_frontT, sumI_congr e1, sumI_congr e2, sumI_swap]
    rfl
theorem dt_tr : ∀ (n : Nat) (J L : List Nat) (f : Nat → Nat → Int), J.length = n → L.length = n → dt J (fun l j => f (L[l]?.getD 0) j) = dt L (fun l j => f j (J[l]?.getD 0))
  | 0, J, L, f, hJ, hL => by
    rw [List.eq_nil_of_length_eq_zero hJ, List.eq_nil_of_length_eq_zero hL]; rfl
  | n + 1, [], L, f, hJ, hL => by simp at hJ
  | n + 1, j :: J, L, f, hJ, hL => by
    rw [dt_row L _ (fun e => by rw [e] at hL; simp at hL), dt, hL]
    rw [List.length_cons] at hJ
    rw [hJ]
    refine sumI_congr fun k hk => ?_
    have h1 : dt J (fun l c => f (L[skp k l]?.getD 0) c) = dt (L.eraseIdx k) (fun l c => f c (J[l]?.getD 0)) := by
      rw [← dt_tr n J (L.eraseIdx k) f (by omega) (by rw [List.length_eraseIdx_of_lt (by omega)]; omega)]
      refine dt_congr fun l hl c hc => ?_
      rw [List.getElem?_eraseIdx]
      unfold skp
      split <;> rfl
    exact congrArg (sgn k * f (L[k]?.getD 0) j * ·) h1
theorem dt_trans (n : Nat) (f : Nat → Nat → Int) : dt (List.range' 0 n) f = dt (List.range' 0 n) (fun l j => f j l) := by
  have hg : ∀ l, l < n → (List.range' 0 n)[l]?.getD 0 = l := fun l hl => by rw [List.getElem?_range' hl]; simp
  have h := dt_tr n (List.range' 0 n) (List.range' 0 n) f (by simp) (by simp)
  rw [dt_congr (g := f) (fun l hl j hj => by rw [hg l (by simpa using hl)])] at h
  rw [h]
  exact dt_congr fun l hl j hj => by rw [hg l (by simpa using hl)]
end Go.Proofs.YteliflcbegcdlaaGreatDoor

namespace Go.Proofs.YteliflcbegcdlaaGreatDoor
open Go.RowKit
set_option linter.unusedVariables false
section
variable {P : Program} {w : World} {b : Nat} {S : List UInt8 → Prop} {t kt et : TypeId} {k : List UInt8}
end
end Go.Proofs.YteliflcbegcdlaaGreatDoor

namespace Go.Proofs.YteliflcbegcdlaaGreatDoor
open Go.RowKit
set_option linter.unusedVariables false
section
variable {α : Type} {enc : α → List Value} {sz : Nat} {w : World}
theorem flat_len (hl : ∀ x, (enc x).length = sz) (ys : List α) : (ys.flatMap enc).length = ys.length * sz := by
  induction ys with
  | nil => simp
  | cons x xs ih => rw [List.flatMap_cons, List.length_append, ih, hl, List.length_cons, Nat.succ_mul]; omega
theorem flat_get (hl : ∀ x, (enc x).length = sz) : ∀ (ys : List α) (k j : Nat) (h : k < ys.length), j < sz → (ys.flatMap enc)[k * sz + j]? = (enc ys[k])[j]? := by
  intro ys
  induction ys with
  | nil => intro k j h; simp at h
  | cons m l ih =>
    intro k j h hj
    rw [List.flatMap_cons]
    cases k with
    | zero => rw [List.getElem?_append_left (by rw [hl]; omega)]; simp
    | succ k =>
      rw [List.getElem?_append_right (by rw [hl, Nat.succ_mul]; omega)]
      have := ih k j (by simpa using h) hj
      rw [show (k + 1) * sz + j - (enc m).length = k * sz + j from by rw [hl, Nat.succ_mul]; omega, this]
      simp
theorem flat_drop (hl : ∀ x, (enc x).length = sz) : ∀ (k : Nat) (ys : List α), (ys.drop k).flatMap enc = (ys.flatMap enc).drop (k * sz)
  | 0, ys => by simp
  | k + 1, [] => by simp
  | k + 1, y :: ys => by
    have e1 : (enc y).drop ((k + 1) * sz) = [] := List.drop_eq_nil_of_le (by rw [hl, Nat.succ_mul]; omega)
    have e2 : (k + 1) * sz - sz = k * sz := by rw [Nat.succ_mul]; omega
    rw [List.drop_succ_cons, flat_drop hl k ys, List.flatMap_cons, List.drop_append, e1, hl, e2, List.nil_append]
theorem flat_take (hl : ∀ x, (enc x).length = sz) : ∀ (k : Nat) (ys : List α), (ys.take k).flatMap enc = (ys.flatMap enc).take (k * sz)
  | 0, ys => by simp
  | k + 1, [] => by simp
  | k + 1, y :: ys => by
    have e1 : (enc y).take ((k + 1) * sz) = enc y := List.take_of_length_le (by rw [hl, Nat.succ_mul]; omega)
    have e2 : (k + 1) * sz - sz = k * sz := by rw [Nat.succ_mul]; omega
    rw [List.take_succ_cons, List.flatMap_cons, List.flatMap_cons, flat_take hl k ys, List.take_append, e1, hl, e2]
/-- a part of a slice reads as the part of the list -/
theorem SlA.sub (hl : ∀ x, (enc x).length = sz) (hs : 0 < sz) {A : Option Addr} {n c lo hi : Nat} {ys : List α} (h : SlA enc w (.slice A n c) ys) (h1 : lo ≤ hi) (h2 : hi ≤ ys.length) (c' : Nat) (hc : hi - lo ≤ c') (A' : Option Addr) (hA : lo < hi → A' = A.map (·.add (lo * sz))) :
    SlA enc w (.slice A' (hi - lo) c') ((ys.take hi).drop lo) := by
  obtain ⟨A0, c0, hv, hcap, hx⟩ := h
  injection hv with e1 e2 e3
  subst e1
  have hlen : ((ys.take hi).drop lo).length = hi - lo := by simp; omega
  refine ⟨A', c', by rw [hlen], by omega, fun j q hq => ?_⟩
  have hj : j < ((ys.take hi).drop lo).length * sz := by
    have := (List.getElem?_eq_some_iff.1 hq).1
    rwa [flat_len hl] at this
  rw [hlen] at hj
  have hlt : lo < hi := by
    rcases Nat.lt_or_ge lo hi with q | q
    · exact q
    · rw [show hi - lo = 0 by omega, Nat.zero_mul] at hj; omega
  rw [flat_drop hl, List.getElem?_drop, flat_take hl, List.getElem?_take, if_pos (by
    have : lo * sz + (hi - lo) * sz = hi * sz := by rw [← Nat.add_mul]; congr 1; omega
    omega)] at hq
  obtain ⟨b, o, hA0, hcell⟩ := hx _ q hq
  subst hA0
  refine ⟨b, o + lo * sz, ?_, by rw [Nat.add_assoc]; exact hcell⟩
  rw [hA hlt]
  simp only [Option.map_some, Addr.add]
  split <;> simp_all
end
end Go.Proofs.YteliflcbegcdlaaGreatDoor

namespace Go.Proofs.YteliflcbegcdlaaGreatDoor
set_option linter.unusedVariables false
/-- the closure of a relation -/
inductive Conn (E : Nat → Nat → Prop) : Nat → Nat → Prop
  | refl (a : Nat) : Conn E a a
  | step {a b c : Nat} : Conn E a b → E b c → Conn E a c
namespace Conn
variable {E : Nat → Nat → Prop} {a b c : Nat}
theorem one (h : E a b) : Conn E a b := .step (.refl a) h
theorem trans (h : Conn E a b) (k : Conn E b c) : Conn E a c := by
  induction k with
  | refl => exact h
  | step _ e ih => exact .step ih e
theorem symm (hE : ∀ a b, E a b → E b a) (h : Conn E a b) : Conn E b a := by
  induction h with
  | refl => exact .refl _
  | step _ e ih => exact (one (hE _ _ e)).trans ih
/-- a set that is closed under the relation -/
theorem closed {P : Nat → Prop} (hP : ∀ a b, E a b → P a → P b) (h : Conn E a b) (ha : P a) : P b := by
  induction h with
  | refl => exact ha
  | step _ e ih => exact hP _ _ e ih
end Conn
theorem countP_lt {p q : Nat → Bool} : ∀ (l : List Nat), (∀ x ∈ l, p x = true → q x = true) → (∃ x ∈ l, q x = true ∧ p x = false) → l.countP p < l.countP q
  | [], _, h => by obtain ⟨x, hx, _⟩ := h; cases hx
  | a :: l, hm, h => by
    have hle : l.countP p ≤ l.countP q := List.countP_mono_left (fun x hx => hm x (List.mem_cons_of_mem _ hx))
    rw [List.countP_cons, List.countP_cons]
    by_cases hx : ∃ x ∈ l, q x = true ∧ p x = false
    · have := countP_lt l (fun x hx => hm x (List.mem_cons_of_mem _ hx)) hx
      have ha := hm a (by simp)
      cases hp : p a <;> cases hq : q a <;> simp_all <;> omega
    · obtain ⟨x, hx1, hx2, hx3⟩ := h
      rcases List.mem_cons.1 hx1 with rfl | hx1
      · simp [hx2, hx3]; omega
      · exact absurd ⟨x, hx1, hx2, hx3⟩ hx
/-- after n passes each label is at most every element of its class -/
theorem passes {n : Nat} {E : Nat → Nat → Prop} (hE : ∀ a b, E a b → a < n ∧ b < n) (T : Nat → Nat → Nat) (h0 : ∀ c, c < n → T 0 c ≤ c)
    (hd : ∀ t c, T (t + 1) c ≤ T t c) (he : ∀ t a b, E a b → T (t + 1) b ≤ T t a) {m c : Nat} (hm : m < n) (hc : Conn E m c) : T n c ≤ m := by
  have down : ∀ t, T t m ≤ m := by
    intro t
    induction t with
    | zero => exact h0 m hm
    | succ t ih => exact Nat.le_trans (hd t m) ih
  have key : ∀ t, (∀ c, Conn E m c → T t c ≤ m) ∨ t + 1 ≤ (List.range n).countP (fun c => decide (T t c ≤ m)) := by
    intro t
    induction t with
    | zero =>
      refine Or.inr ?_
      rw [Nat.zero_add]
      exact List.countP_pos_iff.2 ⟨m, List.mem_range.2 hm, by simpa using h0 m hm⟩
    | succ t ih =>
      rcases ih with ih | ih
      · exact Or.inl fun c h => Nat.le_trans (hd t c) (ih c h)
      · by_cases hx : ∃ c ∈ List.range n, decide (T (t + 1) c ≤ m) = true ∧ decide (T t c ≤ m) = false
        · refine Or.inr (Nat.lt_of_le_of_lt ih ?_)
          refine countP_lt _ (fun x _ h => ?_) hx
          have := hd t x
          simp only [decide_eq_true_eq] at h ⊢
          omega
        · refine Or.inl fun c h => ?_
          have hcl : T t c ≤ m := by
            refine h.closed (P := fun c => T t c ≤ m) (fun a b e ha => ?_) (down t)
            have h1 := he t a b e
            rcases Nat.lt_or_ge m (T t b) with h2 | h2
            · exact absurd ⟨b, List.mem_range.2 (hE a b e).2, by simp; omega, by simp; omega⟩ hx
            · exact h2
          exact Nat.le_trans (hd t c) hcl
  rcases key n with h | h
  · exact h c hc
  · have := List.countP_le_length (p := fun c => decide (T n c ≤ m)) (l := List.range n)
    rw [List.length_range] at this
    omega
end Go.Proofs.YteliflcbegcdlaaGreatDoor
