/- More words: results that lie in memory. -/
/- gridmove.relocate: the marks of a grid are laid where a function says. -/
import Derived.Test.YteliflcbegcdlaaGreatDoorZBase
import Derived.Laws.ResultCell
import Derived.Test.YteliflcbegcdlaaGreatDoorProg
import Derived.KernelRfl
import Derived.Outline
import Derived.Deep.DeepCutAuto
namespace Go.Proofs.YteliflcbegcdlaaGreatDoor
set_option linter.unusedVariables false
open Go.RowKit
theorem results_ct {P : Program} {fn : Func} {p u : Tmp} {ty : TypeId} (h : fn.results = #[.cell p ty, .tmp u]) (tmps : Array Value) (w : World) (g : Nat) (t : TypeId) (cs : List Value) (d : TypeDesc)
    (hp : tmps.getD p undef = .pointer (some ⟨g, 0, none⟩)) (hg : Arr w g t cs)
    (hu : P.underlying ty = some d) (hd : (match d with | .struct _ | .array _ _ => true | _ => false) = true) (hi : (P.info? ty).map (·.size) = some (rowOf cs).size) :
    (results fn tmps).run P w = .ok (.tuple #[.agg (rowOf cs), tmps.getD u undef]) w := by
  rw [results_cell_tmp h, hp]
  simp [asAddr, run_loadVar_row w g t ty (rowOf cs) (0, 0) d hg hu hd hi]
theorem results_ctt {P : Program} {fn : Func} {p u u' : Tmp} {ty : TypeId} (h : fn.results = #[.cell p ty, .tmp u, .tmp u']) (tmps : Array Value) (w : World) (g : Nat) (t : TypeId) (cs : List Value) (d : TypeDesc)
    (hp : tmps.getD p undef = .pointer (some ⟨g, 0, none⟩)) (hg : Arr w g t cs)
    (hu : P.underlying ty = some d) (hd : (match d with | .struct _ | .array _ _ => true | _ => false) = true) (hi : (P.info? ty).map (·.size) = some (rowOf cs).size) :
    (results fn tmps).run P w = .ok (.tuple #[.agg (rowOf cs), tmps.getD u undef, tmps.getD u' undef]) w := by
  have hp' : tmps[p]?.getD undef = .pointer (some ⟨g, 0, none⟩) := by simpa using hp
  simp only [results, h]
  simp [hp', Result.andThen, asAddr, run_loadVar_row w g t ty (rowOf cs) (0, 0) d hg hu hd hi]
theorem results_c {P : Program} {fn : Func} {p : Tmp} {ty : TypeId} (h : fn.results = #[.cell p ty]) (tmps : Array Value) (w : World) (g : Nat) (t : TypeId) (cs : List Value) (d : TypeDesc)
    (hp : tmps.getD p undef = .pointer (some ⟨g, 0, none⟩)) (hg : Arr w g t cs)
    (hu : P.underlying ty = some d) (hd : (match d with | .struct _ | .array _ _ => true | _ => false) = true) (hi : (P.info? ty).map (·.size) = some (rowOf cs).size) :
    (results fn tmps).run P w = .ok (.agg (rowOf cs)) w := results_cell_row h tmps w g t (rowOf cs) (0, 0) d hp hg hu hd hi
end Go.Proofs.YteliflcbegcdlaaGreatDoor

namespace Go.Proofs.YteliflcbegcdlaaGreatDoor
set_option linter.unusedVariables false
open Go.RowKit
theorem info_int : (Tryz.prog.info? 3).map (fun i => (i.zero, i.size, i.bytes)) = some (some (.int .i64 0), 1, 8) := by kernel_rfl
theorem info_grid : (Tryz.prog.info? 24).map (·.size) = some 2 := by kernel_rfl
/-- the row of a list of integers -/
def ints (xs : List Int) : List Value := xs.map (Value.int .i64)
theorem ints_get (xs : List Int) {i : Nat} (h : i < xs.length) : (ints xs)[i]? = some (.int .i64 xs[i]) := by simp [ints, h]
theorem ints_set (xs : List Int) (i : Nat) (x : Int) : (ints xs).set i (.int .i64 x) = ints (xs.set i x) := by simp [ints, List.map_set]
theorem ints_zero (n : Nat) : ints (List.replicate n 0) = List.replicate n (.int .i64 0) := by simp [ints]
def relStep (mv : Int → Int → Bool → Int × Int) (b : Bool) (i : Nat) (x : Int) (acc : List Int) : List Int :=
  if 0 ≤ (mv i x b).1 then acc.set (mv i x b).1.toNat (mv i x b).2 else acc
def relTo (mv : Int → Int → Bool → Int × Int) (b : Bool) : Nat → List Int → List Int → List Int
  | _, [], acc => acc
  | i, x :: xs, acc => relTo mv b (i + 1) xs (relStep mv b i x acc)
theorem relStep_length (mv : Int → Int → Bool → Int × Int) (b : Bool) (i : Nat) (x : Int) (acc : List Int) : (relStep mv b i x acc).length = acc.length := by
  unfold relStep; split <;> simp
theorem relTo_length (mv : Int → Int → Bool → Int × Int) (b : Bool) (i : Nat) (xs acc : List Int) : (relTo mv b i xs acc).length = acc.length := by
  induction xs generalizing i acc with
  | nil => rfl
  | cons x xs ih => rw [relTo, ih, relStep_length]
theorem relTo_drop (mv : Int → Int → Bool → Int × Int) (b : Bool) (xs acc : List Int) {k : Nat} (h : k < xs.length) :
    relTo mv b k (xs.drop k) acc = relTo mv b (k + 1) (xs.drop (k + 1)) (relStep mv b k xs[k] acc) := by
  rw [List.drop_eq_getElem_cons h, relTo]
def reloc (mv : Int → Int → Bool → Int × Int) (b : Bool) (n : Nat) (xs : List Int) : List Int := relTo mv b 0 xs (List.replicate n 0)
/-- the value v is a new grid: two rows of its own, from block B on -/
def NewGrid (B : Nat) (w : World) (v : Value) (X O : List Int) : Prop :=
  ∃ gx go, v = .agg #[.slice (some ⟨gx, 0, none⟩) X.length X.length, .slice (some ⟨go, 0, none⟩) O.length O.length] ∧ gx ≠ go ∧ B ≤ gx ∧ B ≤ go ∧
    Arr w gx 3 (ints X) ∧ Arr w go 3 (ints O)
def Mid3 (B : Nat) (w : World) (g gx go : Nat) (vx vo : Value) (X O : List Int) : Prop :=
  gx ≠ go ∧ g ≠ gx ∧ g ≠ go ∧ B + 2 ≤ g ∧ B + 2 ≤ gx ∧ B + 2 ≤ go ∧
    Arr w g 24 [.slice (some ⟨gx, 0, none⟩) X.length X.length, .slice (some ⟨go, 0, none⟩) O.length O.length] ∧
    Arr w gx 3 (ints X) ∧ Arr w go 3 (ints O) ∧ Arr w B 24 [vx, vo] ∧ (∃ a b, Arr w (B + 1) 24 [a, b])
def Mid (B : Nat) (w : World) (s7 s14 s16 : Value) (vx vo : Value) (X O : List Int) : Prop :=
  ∃ g gx go, s7 = .pointer (some ⟨g, 0, none⟩) ∧ s14 = .slice (some ⟨gx, 0, none⟩) X.length X.length ∧ s16 = .slice (some ⟨go, 0, none⟩) O.length O.length ∧ Mid3 B w g gx go vx vo X O
theorem Mid3.setX {B : Nat} {w : World} {g gx go : Nat} {vx vo : Value} {X O : List Int} (h : Mid3 B w g gx go vx vo X O) (i : Nat) (x : Int) :
    Mid3 B (w.setCell ⟨gx, i, none⟩ (.int .i64 x)) g gx go vx vo (X.set i x) O := by
  obtain ⟨e1, e2, e3, e4, e5, e6, h1, h2, h3, h4, a, b, h5⟩ := h
  refine ⟨e1, e2, e3, e4, e5, e6, ?_, ?_, h3.far (fun h => e1 h.symm) _, h4.far (by show B ≠ gx; omega) _, a, b, h5.far (by show B + 1 ≠ gx; omega) _⟩
  · rw [List.length_set]; exact h1.far e2 _
  · rw [← ints_set]; exact h2.set _ _
theorem Mid3.setO {B : Nat} {w : World} {g gx go : Nat} {vx vo : Value} {X O : List Int} (h : Mid3 B w g gx go vx vo X O) (i : Nat) (x : Int) :
    Mid3 B (w.setCell ⟨go, i, none⟩ (.int .i64 x)) g gx go vx vo X (O.set i x) := by
  obtain ⟨e1, e2, e3, e4, e5, e6, h1, h2, h3, h4, a, b, h5⟩ := h
  refine ⟨e1, e2, e3, e4, e5, e6, ?_, h2.far e1 _, ?_, h4.far (by show B ≠ go; omega) _, a, b, h5.far (by show B + 1 ≠ go; omega) _⟩
  · rw [List.length_set]; exact h1.far e3 _
  · rw [← ints_set]; exact h3.set _ _
theorem mid_of {g gx go : Nat} (w wx : World) (vx vo : Value) (n : Nat)
    (h0 : wx.heap[w.heap.size]? = some (.cells #[vx, vo] 24 (0, 0))) (h1 : wx.heap[w.heap.size + 1]? = some (.cells #[.slice none 0 0, .slice none 0 0] 24 (0, 0)))
    (hg : wx.heap[g]? = some (.cells #[.slice (some ⟨gx, 0, none⟩) n n, .slice (some ⟨go, 0, none⟩) n n] 24 (0, 0)))
    (hx : wx.heap[gx]? = some (.cells (rowOf (List.replicate n (Value.int IntKind.i64 0))) 3 (0, 0))) (ho : wx.heap[go]? = some (.cells (rowOf (List.replicate n (Value.int IntKind.i64 0))) 3 (0, 0)))
    (e1 : gx ≠ go) (e2 : g ≠ gx) (e3 : g ≠ go) (e4 : w.heap.size + 2 ≤ g) (e5 : w.heap.size + 2 ≤ gx) (e6 : w.heap.size + 2 ≤ go) :
    Mid w.heap.size wx (.pointer (some ⟨g, 0, none⟩)) (.slice (some ⟨gx, 0, none⟩) n n) (.slice (some ⟨go, 0, none⟩) n n) vx vo (List.replicate n 0) (List.replicate n 0) := by
  refine ⟨g, gx, go, rfl, by rw [List.length_replicate], by rw [List.length_replicate], e1, e2, e3, e4, e5, e6, ?_, ?_, ?_, h0, _, _, h1⟩
  · simp only [List.length_replicate]; exact hg
  · rw [ints_zero]; exact hx
  · rw [ints_zero]; exact ho
set_option maxHeartbeats 1000000 in
theorem relocate_any (vx vo : Value) (X O : List Int) (n : Nat) (f : FuncId) (cap : Array Value) (mv : Int → Int → Bool → Int × Int) (w : World)
    (hcall : ∀ args W, Sem.run Tryz.prog (callFunc f args) W = .ok (.enter f args) W) (hxl : X.length ≤ 1000)
    (hX : Ints w vx X) (hO : Ints w vo O) (hlen : X.length = O.length) (hn : n ≤ 1000)
    (hfX : ∀ W, Below w.heap.size w W → ∀ (k : Nat) (h : k < X.length), Calls Tryz.prog f (#[.int .i64 k, .int .i64 X[k], .bool true] ++ cap) W fun e W' => e = .returned (.tuple #[.int .i64 (mv k X[k] true).1, .int .i64 (mv k X[k] true).2]) ∧ W = W')
    (hfO : ∀ W, Below w.heap.size w W → ∀ (k : Nat) (h : k < O.length), Calls Tryz.prog f (#[.int .i64 k, .int .i64 O[k], .bool false] ++ cap) W fun e W' => e = .returned (.tuple #[.int .i64 (mv k O[k] false).1, .int .i64 (mv k O[k] false).2]) ∧ W = W')
    (htX : ∀ (k : Nat) (h : k < X.length), (mv k X[k] true).1 < n) (htO : ∀ (k : Nat) (h : k < O.length), (mv k O[k] false).1 < n) :
    Calls Tryz.prog 90 #[.agg #[vx, vo], .int .i64 n, .func (.func f) #[] cap] w fun e w' => ∃ v, e = .returned v ∧ NewGrid w.heap.size w' v (reloc mv true n X) (reloc mv false n O) ∧ Below w.heap.size w w' := by
  obtain ⟨i0, hi0, hz0, hz1, hz2⟩ := info_parts info_int
  have hmk := fun W => run_make_one (P := Tryz.prog) 22 3 i0 (.int .i64 0) Tryz.underlying22 hi0 hz0 hz1 rfl (by rw [hz2]; decide) n (by omega) W
  clear hi0 hz0 hz1 hz2
  have HL := Lib.hid hlen
  clear hlen
  have HX := Lib.hid hfX
  have HO := Lib.hid hfO
  have TX := Lib.hid htX
  have TO := Lib.hid htO
  clear hfX hfO htX htO
  have hX0 := hX
  have hO0 := hO
  obtain ⟨A, c, rfl, hc, hh⟩ := hX
  obtain ⟨A', c', rfl, hc', hh'⟩ := hO
  clear hh hh'
  go_enter Tryz.func90, Tryz.ntmps90
  go_upto_region 1 with fail
  go_cut [7, 14, 16] (fun s7 s14 s16 wx => Mid w.heap.size wx s7 s14 s16 (.slice A X.length c) (.slice A' O.length c') (List.replicate n 0) (List.replicate n 0) ∧ Below w.heap.size w wx)
  case first =>
    go_region
    all_goals
      go_wp2_with fail
      go_meet
      refine ⟨?_, ?_⟩
      rotate_left
      · repeat (first | exact Below.refl _ _ | refine Below.alloc ?_ (by simp <;> omega) _ | refine Below.drew ?_)
      exact mid_of w _ _ _ n (by simp only [heap_push, heap_drew, Array.getElem?_push, Array.size_push]; repeat (first | rw [if_pos trivial] | rw [if_neg (by omega)])) (by simp only [heap_push, heap_drew, Array.getElem?_push, Array.size_push]; repeat (first | rw [if_pos trivial] | rw [if_neg (by omega)])) (by simp only [heap_push, heap_drew, Array.getElem?_push, Array.size_push]; repeat (first | rw [if_pos trivial] | rw [if_neg (by omega)])) (by simp only [heap_push, heap_drew, Array.getElem?_push, Array.size_push]; repeat (first | rw [if_pos trivial] | rw [if_neg (by omega)])) (by simp only [heap_push, heap_drew, Array.getElem?_push, Array.size_push]; repeat (first | rw [if_pos trivial] | rw [if_neg (by omega)])) (by omega) (by omega) (by omega) (by omega) (by omega) (by omega)
  case rest =>
    obtain ⟨⟨g, gx, go, rfl, e14, e16, hm⟩, hb⟩ := hcut
    clear e14 e16
    have hbx := hm.2.2.2.2.2.2.2.2.2.1.cell 0
    go_wp2_with fail
    clear hbx
    go_loopw [21] (fun i wr => ∃ (k : Nat) (aX aO : List Int), k ≤ X.length ∧ i = .int .i64 k ∧ Mid3 w.heap.size wr g gx go (.slice A X.length c) (.slice A' O.length c') aX aO ∧ Below w.heap.size w wr ∧
      Hid (aX.length = n ∧ aO.length = n ∧ reloc mv true n X = relTo mv true k (X.drop k) aX ∧ reloc mv false n O = relTo mv false k (O.drop k) aO)) (fun i _ => X.length - (intOf i).toNat)
    case atStart =>
      exact ⟨0, _, _, Nat.zero_le _, rfl, hm, hb, by simp, by simp, rfl, rfl⟩
    case round =>
      obtain ⟨k, aX, aO, hk, rfl, hm', hb', H⟩ := hrel
      clear hb hm
      by_cases hlt : k < X.length
      · obtain ⟨b, o, rfl, hbl, hcell⟩ := hX0.at_ hlt
        have hltO : k < O.length := by have := HL.out; omega
        obtain ⟨b', o', rfl, hbl', hcell'⟩ := hO0.at_ hltO
        have hcX := (hb'.cell (p := ⟨b, o + k, none⟩) hbl).trans hcell
        have hb0 := hm'.2.2.2.2.2.2.2.2.2.1.cell 0
        have hb1 := hm'.2.2.2.2.2.2.2.2.2.1.cell 1
        clear hcell
        have hs1 := TX.out k hlt
        have hs2 := TO.out k hltO
        have hS1 : Hid (relStep mv true k X[k] aX = if 0 ≤ (mv k X[k] true).1 then aX.set (mv k X[k] true).1.toNat (mv k X[k] true).2 else aX) := rfl
        have hS2 : Hid (relStep mv false k O[k] aO = if 0 ≤ (mv k O[k] false).1 then aO.set (mv k O[k] false).1.toNat (mv k O[k] false).2 else aO) := rfl
        have F1 := Lib.hid (HX.out wr hb' k hlt)
        have F2 := Lib.hid (fun W hW => HO.out W hW k hltO)
        rw [relTo_drop mv true X aX hlt, relTo_drop mv false O aO hltO] at H
        generalize relStep mv true k X[k] aX = aX' at *
        generalize relStep mv false k O[k] aO = aO' at *
        generalize mv k X[k] true = p1 at *
        generalize mv k O[k] false = p2 at *
        generalize X[k] = x at *
        generalize O[k] = y at *
        clear HX HO TX TO
        obtain ⟨c1, r1⟩ := p1
        obtain ⟨c2, r2⟩ := p2
        simp only at hs1 hs2 hS1 hS2 F1 F2
        by_cases h1 : 0 ≤ c1
        · obtain ⟨m1, rfl⟩ := Int.eq_ofNat_of_zero_le h1
          have hg0 := hm'.2.2.2.2.2.2.1.cell 0
          have hn1 : m1 < aX.length := by have := H.out.1; omega
          have hst := (hm'.2.2.2.2.2.2.2.1.cell m1).trans (ints_get aX hn1)
          have hfz := hm'.2.2.2.2.2.2.2.1.frozen m1
          go_wp2_with fail
          refine F1.out.mono ?_
          rintro e w' ⟨rfl, rfl⟩
          have hm2 := hm'.setX m1 r1
          have hb2 := hb'.setCell (p := ⟨gx, m1, none⟩) (by have := hm'.2.2.2.2.1; show w.heap.size ≤ gx; omega) (.int .i64 r1)
          have hcO := (hb2.cell (p := ⟨b', o' + k, none⟩) hbl').trans hcell'
          clear hb0 hb1
          have hb1 := hm2.2.2.2.2.2.2.2.2.2.1.cell 1
          have hE : aX' = aX.set m1 r1 := by rw [hS1.out, if_pos h1]; rfl
          subst hE
          by_cases h2 : 0 ≤ c2
          · obtain ⟨m2, rfl⟩ := Int.eq_ofNat_of_zero_le h2
            have hg1 := hm2.2.2.2.2.2.2.1.cell 1
            have hn2 : m2 < aO.length := by have := H.out.2.1; omega
            have hst2 := (hm2.2.2.2.2.2.2.2.2.1.cell m2).trans (ints_get aO hn2)
            have hfz2 := hm2.2.2.2.2.2.2.2.2.1.frozen m2
            have hE : aO' = aO.set m2 r2 := by rw [hS2.out, if_pos h2]; rfl
            subst hE
            go_wp2_with fail
            refine (F2.out _ hb2).mono ?_
            rintro e w' ⟨rfl, rfl⟩
            go_wp2_with fail
            go_roundw
            case rel => exact ⟨k + 1, _, _, by omega, by go_num, hm2.setO m2 r2, hb2.setCell (p := ⟨go, m2, none⟩) (by have := hm'.2.2.2.2.2.1; show w.heap.size ≤ go; omega) _, by simp [H.out.1], by simp [H.out.2.1], H.out.2.2.1, H.out.2.2.2⟩
            case measure => simp [intOf]; omega
          · have hE : aO' = aO := by rw [hS2.out, if_neg (by omega)]
            subst hE
            go_wp2_with fail
            refine (F2.out _ hb2).mono ?_
            rintro e w' ⟨rfl, rfl⟩
            go_wp2_with fail
            go_roundw
            case rel => exact ⟨k + 1, _, _, by omega, by go_num, hm2, hb2, by simp [H.out.1], by simp [H.out.2.1], H.out.2.2.1, H.out.2.2.2⟩
            case measure => simp [intOf]; omega
        · go_wp2_with fail
          refine F1.out.mono ?_
          rintro e w' ⟨rfl, rfl⟩
          have hcO := (hb'.cell (p := ⟨b', o' + k, none⟩) hbl').trans hcell'
          clear hb0 hb1
          have hb1 := hm'.2.2.2.2.2.2.2.2.2.1.cell 1
          have hE : aX' = aX := by rw [hS1.out, if_neg (by omega)]
          subst hE
          by_cases h2 : 0 ≤ c2
          · obtain ⟨m2, rfl⟩ := Int.eq_ofNat_of_zero_le h2
            have hg1 := hm'.2.2.2.2.2.2.1.cell 1
            have hn2 : m2 < aO.length := by have := H.out.2.1; omega
            have hst2 := (hm'.2.2.2.2.2.2.2.2.1.cell m2).trans (ints_get aO hn2)
            have hfz2 := hm'.2.2.2.2.2.2.2.2.1.frozen m2
            have hE : aO' = aO.set m2 r2 := by rw [hS2.out, if_pos h2]; rfl
            subst hE
            go_wp2_with fail
            refine (F2.out _ hb').mono ?_
            rintro e w' ⟨rfl, rfl⟩
            go_wp2_with fail
            go_roundw
            case rel => exact ⟨k + 1, _, _, by omega, by go_num, hm'.setO m2 r2, hb'.setCell (p := ⟨go, m2, none⟩) (by have := hm'.2.2.2.2.2.1; show w.heap.size ≤ go; omega) _, by simp [H.out.1], by simp [H.out.2.1], H.out.2.2.1, H.out.2.2.2⟩
            case measure => simp [intOf]; omega
          · have hE : aO' = aO := by rw [hS2.out, if_neg (by omega)]
            subst hE
            go_wp2_with fail
            refine (F2.out _ hb').mono ?_
            rintro e w' ⟨rfl, rfl⟩
            go_wp2_with fail
            go_roundw
            case rel => exact ⟨k + 1, _, _, by omega, by go_num, hm', hb', by simp [H.out.1], by simp [H.out.2.1], H.out.2.2.1, H.out.2.2.2⟩
            case measure => simp [intOf]; omega
      · obtain rfl : k = X.length := by omega
        obtain ⟨hl1, hl2, hr1, hr2⟩ := H.out
        rw [List.drop_length] at hr1
        rw [HL.out, List.drop_length] at hr2
        have hg0 := hm'.2.2.2.2.2.2.1.cell 0
        have hg1 := hm'.2.2.2.2.2.2.1.cell 1
        obtain ⟨e1, e2, e3, e4, e5, e6, q1, q2, q3, q4, a, b, q5⟩ := hm'
        have hz0 := q5.cell 0
        have hz1 := q5.cell 1
        have hz2 := q5.frozen 0
        have hz3 := q5.frozen 1
        have R1 := Lib.hid hr1
        have R2 := Lib.hid hr2
        have hres : Hid (Arr ((wr.setCell ⟨w.heap.size + 1, 0, none⟩ (.slice (some ⟨gx, 0, none⟩) aX.length aX.length)).setCell ⟨w.heap.size + 1, 1, none⟩ (.slice (some ⟨go, 0, none⟩) aO.length aO.length)) (w.heap.size + 1) 24
          [.slice (some ⟨gx, 0, none⟩) aX.length aX.length, .slice (some ⟨go, 0, none⟩) aO.length aO.length]) := (q5.set 0 _).set 1 _
        clear hr1 hr2 hl1 hl2 q1 q4 q5 hX0 hO0
        go_wp2_with fail
        refine bodyPost_ret (v := .agg #[.slice (some ⟨gx, 0, none⟩) aX.length aX.length, .slice (some ⟨go, 0, none⟩) aO.length aO.length]) (results_cell_row Tryz.results90 _ _ (w.heap.size + 1) 24 _ (0, 0) _ rfl hres.out Tryz.underlying24 rfl info_grid) rfl ⟨_, rfl, ?_, ?_⟩
        · rw [R1.out, R2.out]
          exact ⟨gx, go, rfl, e1, by omega, by omega, (q2.far (by show gx ≠ w.heap.size + 1; omega) _).far (by show gx ≠ w.heap.size + 1; omega) _, (q3.far (by show go ≠ w.heap.size + 1; omega) _).far (by show go ≠ w.heap.size + 1; omega) _⟩
        · exact (hb'.setCell (by show w.heap.size ≤ w.heap.size + 1; omega) _).setCell (by show w.heap.size ≤ w.heap.size + 1; omega) _
end Go.Proofs.YteliflcbegcdlaaGreatDoor
