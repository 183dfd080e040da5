/- Words for memory that all walks of this seat use: a block that is a known row, a slice that reads as a list of integers. -/
/- More words: results that lie in memory. -/
/- gridmove.relocate: the marks of a grid are laid where a function says. -/
/- The closures that gridmove hands to relocate, and gridmove.limits. -/
/- grid.permutation: it returns whether each element is in range and none occurs twice. -/
/- gridmove.transpose and grid.Valid. -/
/- gridmove.commutes: whether two columns can be exchanged. -/
/- A region that draws its order, by facts: one obligation for each operation, whatever the order. -/
/- A region that draws its order, whose operations leave what was there as it is (they may make memory and call): each operation is walked once; of each result a fact that later growth keeps. -/
/- XPhi for a region with guards ('&&', '||') that are all met: each operation is walked once; of a guarded one it is shown that its guard holds. -/
/- A region that draws its order, whose operations read or call quietly, but for a store at its end: each operation is walked once, by a table of values. -/
/- A region that draws its order: each operation is walked once; a relation T between worlds tells what the operations keep; guards are met or not; with or without a store at its end. -/
/- The end of a region that draws its order, where one slot alone is read afterwards. -/
/- Slices of elements of some cells that the call owns, and a region that draws its order and builds one by appends, a literal beside them. -/
/- A region that draws its order, reads, appends one element to an own slice and stores the slice back. -/
import Derived.Tactics
import Derived.Tactics2
import Derived.WalkKit
import Derived.LoopTactic
import Derived.RegionTactic
import Derived.BigQuiet
import Derived.Deep.QuietTactic
import Derived.Deep.Draws
import Derived.Laws.OwnMore
import Derived.Laws.MakeOwn
import Derived.Laws.Rows
import Derived.Lib.Hide
import Derived.Below
import Derived.Laws.ResultCell
import Derived.Test.YteliflcbegcdlaaGreatDoorProg
import Derived.KernelRfl
import Derived.Outline
import Derived.Deep.DeepCutAuto
import Derived.BigGuardPart
import Derived.Orders
import Derived.Maps.AppendAt
import Derived.Deep.AppendLies
import Derived.OwnWalk
namespace Go.Proofs.YteliflcbegcdlaaGreatDoor
set_option linter.unusedVariables false
open Go.RowKit
/-- A list as an array, closed to the walk. -/
def rowOf (cs : List Value) : Array Value := cs.toArray
theorem rowOf_get (cs : List Value) (i : Nat) : (rowOf cs)[i]? = cs[i]? := by simp [rowOf]
theorem heap_push (w : World) (o : Obj) : (w.alloc o).heap = w.heap.push o := rfl
theorem bdrewN {B : Nat} {a w : World} (h : Below B a w) (n : Nat) : Below B a (w.drewN n) := ⟨h.os, h.tape, h.output, h.size, h.block⟩
/-- Block b of the world w is the row cs of element type t, nothing in it frozen. -/
def Arr (w : World) (b : Nat) (t : TypeId) (cs : List Value) : Prop := w.heap[b]? = some (.cells (rowOf cs) t (0, 0))
section
variable {w w' : World} {b : Nat} {t : TypeId} {cs : List Value}
theorem Arr.lt (h : Arr w b t cs) : b < w.heap.size := by
  rcases Nat.lt_or_ge b w.heap.size with hlt | hge
  · exact hlt
  · unfold Arr at h; rw [Array.getElem?_eq_none hge] at h; cases h
theorem Arr.cell (h : Arr w b t cs) (i : Nat) : w.cell? ⟨b, i, none⟩ = cs[i]? := by
  rw [cell_of_row w b i _ t (0, 0) h, rowOf_get]
theorem Arr.frozen (h : Arr w b t cs) (i : Nat) : w.frozen? ⟨b, i, none⟩ = false := frozen_of_row w b i _ t h
theorem Arr.new (w : World) (t : TypeId) (cs : List Value) : Arr (w.alloc (.cells (rowOf cs) t)) w.heap.size t cs := heap_alloc_new w _
theorem Arr.newAt (w : World) (t : TypeId) (cs : List Value) (k : Nat) (hk : k = w.heap.size) : Arr (w.alloc (.cells (rowOf cs) t)) k t cs := by subst hk; exact Arr.new w t cs
theorem Arr.drew (h : Arr w b t cs) : Arr w.drew b t cs := h
theorem Arr.drewN (h : Arr w b t cs) (n : Nat) : Arr (w.drewN n) b t cs := h
theorem Arr.alloc (h : Arr w b t cs) (o : Obj) : Arr (w.alloc o) b t cs := (Below.heap_alloc w o b h.lt).trans h
theorem Arr.set (h : Arr w b t cs) (i : Nat) (u : Value) : Arr (w.setCell ⟨b, i, none⟩ u) b t (cs.set i u) := by
  unfold Arr at h ⊢
  rw [heap_setCell_same w b i _ t u h]
  simp [rowOf]
theorem Arr.far (h : Arr w b t cs) {p : Addr} (hp : b ≠ p.block) (u : Value) : Arr (w.setCell p u) b t cs := (Below.heap_setCell w p u b hp).trans h
theorem Arr.far2 (h : Arr w b t cs) {r : Nat} (hr : b ≠ r) {i j : Nat} {u v : Value} : Arr ((w.setCell ⟨r, i, none⟩ u).setCell ⟨r, j, none⟩ v) b t cs := (h.far (p := ⟨r, i, none⟩) hr u).far (p := ⟨r, j, none⟩) hr v
theorem bset2 {B : Nat} {a w : World} (h : Below B a w) {r : Nat} (hr : B ≤ r) {i j : Nat} {u v : Value} : Below B a ((w.setCell ⟨r, i, none⟩ u).setCell ⟨r, j, none⟩ v) := (h.setCell (p := ⟨r, i, none⟩) hr u).setCell (p := ⟨r, j, none⟩) hr v
theorem Arr.below {B : Nat} (h : Arr w b t cs) (hb : Below B w w') (hg : b < B) : Arr w' b t cs := (hb.block b hg).trans h
end
/-- The value v is a slice that reads as the integers xs in the world w. -/
def Ints (w : World) (v : Value) (xs : List Int) : Prop :=
  ∃ A c, v = .slice A xs.length c ∧ xs.length ≤ c ∧ ∀ k x, xs[k]? = some x → ∃ b o, A = some ⟨b, o, none⟩ ∧ w.cell? ⟨b, o + k, none⟩ = some (.int .i64 x)
section
variable {w w' : World} {v : Value} {xs : List Int}
theorem Ints.keep (h : Ints w v xs) (hk : ∀ b o, b < w.heap.size → w'.cell? ⟨b, o, none⟩ = w.cell? ⟨b, o, none⟩) : Ints w' v xs := by
  obtain ⟨A, c, hv, hc, hx⟩ := h
  refine ⟨A, c, hv, hc, fun k x hkx => ?_⟩
  obtain ⟨b, o, hA, hcell⟩ := hx k x hkx
  exact ⟨b, o, hA, (hk b (o + k) (block_lt_of_cell hcell)).trans hcell⟩
theorem Ints.below (h : Ints w v xs) (hb : Below w.heap.size w w') : Ints w' v xs := h.keep fun _ _ hlt => hb.cell hlt
theorem Ints.drew (h : Ints w v xs) : Ints w.drew v xs := h
theorem Ints.drewN (h : Ints w v xs) (n : Nat) : Ints (w.drewN n) v xs := h
theorem Ints.alloc (h : Ints w v xs) (o : Obj) : Ints (w.alloc o) v xs := h.below ((Below.refl _ _).alloc (Nat.le_refl _) o)
theorem Ints.at_ {A : Option Addr} {n c k : Nat} (h : Ints w (.slice A n c) xs) (hk : k < xs.length) :
    ∃ b o, A = some ⟨b, o, none⟩ ∧ b < w.heap.size ∧ w.cell? ⟨b, o + k, none⟩ = some (.int .i64 xs[k]) := by
  obtain ⟨A', c', hv, hc, hx⟩ := h
  injection hv with h1 h2 h3
  subst h1
  obtain ⟨b, o, hA, hcell⟩ := hx k xs[k] (List.getElem?_eq_getElem hk)
  exact ⟨b, o, hA, block_lt_of_cell hcell, hcell⟩
theorem Ints.of_arr {b : Nat} {t : TypeId} (h : Arr w b t (xs.map (Value.int .i64))) : Ints w (.slice (some ⟨b, 0, none⟩) xs.length xs.length) xs := by
  refine ⟨_, _, rfl, Nat.le_refl _, fun k x hk => ⟨b, 0, rfl, ?_⟩⟩
  rw [Nat.zero_add, h.cell, List.getElem?_map, hk]; rfl
theorem Ints.nil (w : World) : Ints w (.slice none 0 0) [] := ⟨none, 0, rfl, Nat.le_refl _, fun k x h => by simp at h⟩
end
/-- What make lays: a row of one value. -/
theorem run_make_one {P : Program} (t e : TypeId) (i : TypeInfo) (z : Value) (ht : P.underlying t = some (.slice e)) (hi : P.info? e = some i) (hz : i.zero = some z)
    (hs : i.size = 1) (hzc : z.cells = #[z]) (hby : i.bytes ≤ 24) (n : Nat) (hn : n ≤ 1000000) (w : World) :
    (Instr.makeSlice t (.int .i64 (n : Int)) (.int .i64 (n : Int))).run P w = .ok (.slice (some ⟨w.heap.size, 0, none⟩) n n) (w.alloc (.cells (rowOf (List.replicate n z)) e)) := by
  have hb : (i.bytes : Int) * (n : Int) ≤ 281474976710656 := by
    have h1 : i.bytes * n ≤ 24 * 1000000 := Nat.mul_le_mul hby hn
    have h : ((i.bytes * n : Nat) : Int) ≤ 281474976710656 := by omega
    rwa [Int.natCast_mul] at h
  have hr := run_make (P := P) w t e i z ht hi hz .i64 .i64 n n (by omega) (by omega) hb (by omega)
  simp only [Int.toNat_natCast, hs, Nat.mul_one, hzc] at hr
  rw [hr]
  congr 4
  apply Array.toList_inj.1
  rw [toList_madeCells_one]; simp [rowOf]
end Go.Proofs.YteliflcbegcdlaaGreatDoor

namespace Go.Proofs.YteliflcbegcdlaaGreatDoor
set_option linter.unusedVariables false
open Go.RowKit
theorem results_ct {P : Program} {fn : Func} {p u : Tmp} {ty : TypeId} (h : fn.results = #[.cell p ty, .tmp u]) (tmps : Array Value) (w : World) (g : Nat) (t : TypeId) (cs : List Value) (d : TypeDesc)
    (hp : tmps.getD p undef = .pointer (some ⟨g, 0, none⟩)) (hg : Arr w g t cs)
    (hu : P.underlying ty = some d) (hd : (match d with | .struct _ | .array _ _ => true | _ => false) = true) (hi : (P.info? ty).map (·.size) = some (rowOf cs).size) :
    (results fn tmps).run P w = .ok (.tuple #[.agg (rowOf cs), tmps.getD u undef]) w := by
  rw [results_cell_tmp h, hp]
  simp [asAddr, run_loadVar_row w g t ty (rowOf cs) (0, 0) d hg hu hd hi]
theorem results_ctt {P : Program} {fn : Func} {p u u' : Tmp} {ty : TypeId} (h : fn.results = #[.cell p ty, .tmp u, .tmp u']) (tmps : Array Value) (w : World) (g : Nat) (t : TypeId) (cs : List Value) (d : TypeDesc)
    (hp : tmps.getD p undef = .pointer (some ⟨g, 0, none⟩)) (hg : Arr w g t cs)
    (hu : P.underlying ty = some d) (hd : (match d with | .struct _ | .array _ _ => true | _ => false) = true) (hi : (P.info? ty).map (·.size) = some (rowOf cs).size) :
    (results fn tmps).run P w = .ok (.tuple #[.agg (rowOf cs), tmps.getD u undef, tmps.getD u' undef]) w := by
  have hp' : tmps[p]?.getD undef = .pointer (some ⟨g, 0, none⟩) := by simpa using hp
  simp only [results, h]
  simp [hp', Result.andThen, asAddr, run_loadVar_row w g t ty (rowOf cs) (0, 0) d hg hu hd hi]
theorem results_c {P : Program} {fn : Func} {p : Tmp} {ty : TypeId} (h : fn.results = #[.cell p ty]) (tmps : Array Value) (w : World) (g : Nat) (t : TypeId) (cs : List Value) (d : TypeDesc)
    (hp : tmps.getD p undef = .pointer (some ⟨g, 0, none⟩)) (hg : Arr w g t cs)
    (hu : P.underlying ty = some d) (hd : (match d with | .struct _ | .array _ _ => true | _ => false) = true) (hi : (P.info? ty).map (·.size) = some (rowOf cs).size) :
    (results fn tmps).run P w = .ok (.agg (rowOf cs)) w := results_cell_row h tmps w g t (rowOf cs) (0, 0) d hp hg hu hd hi
end Go.Proofs.YteliflcbegcdlaaGreatDoor

namespace Go.Proofs.YteliflcbegcdlaaGreatDoor
set_option linter.unusedVariables false
open Go.RowKit
theorem info_int : (Tryz.prog.info? 3).map (fun i => (i.zero, i.size, i.bytes)) = some (some (.int .i64 0), 1, 8) := by kernel_rfl
theorem info_grid : (Tryz.prog.info? 24).map (·.size) = some 2 := by kernel_rfl
/-- the row of a list of integers -/
def ints (xs : List Int) : List Value := xs.map (Value.int .i64)
theorem ints_get (xs : List Int) {i : Nat} (h : i < xs.length) : (ints xs)[i]? = some (.int .i64 xs[i]) := by simp [ints, h]
theorem ints_set (xs : List Int) (i : Nat) (x : Int) : (ints xs).set i (.int .i64 x) = ints (xs.set i x) := by simp [ints, List.map_set]
theorem ints_zero (n : Nat) : ints (List.replicate n 0) = List.replicate n (.int .i64 0) := by simp [ints]
def relStep (mv : Int → Int → Bool → Int × Int) (b : Bool) (i : Nat) (x : Int) (acc : List Int) : List Int :=
  if 0 ≤ (mv i x b).1 then acc.set (mv i x b).1.toNat (mv i x b).2 else acc
def relTo (mv : Int → Int → Bool → Int × Int) (b : Bool) : Nat → List Int → List Int → List Int
  | _, [], acc => acc
  | i, x :: xs, acc => relTo mv b (i + 1) xs (relStep mv b i x acc)
theorem relStep_length (mv : Int → Int → Bool → Int × Int) (b : Bool) (i : Nat) (x : Int) (acc : List Int) : (relStep mv b i x acc).length = acc.length := by
  unfold relStep; split <;> simp
theorem relTo_length (mv : Int → Int → Bool → Int × Int) (b : Bool) (i : Nat) (xs acc : List Int) : (relTo mv b i xs acc).length = acc.length := by
  induction xs generalizing i acc with
  | nil => rfl
  | cons x xs ih => rw [relTo, ih, relStep_length]
theorem relTo_drop (mv : Int → Int → Bool → Int × Int) (b : Bool) (xs acc : List Int) {k : Nat} (h : k < xs.length) :
    relTo mv b k (xs.drop k) acc = relTo mv b (k + 1) (xs.drop (k + 1)) (relStep mv b k xs[k] acc) := by
  rw [List.drop_eq_getElem_cons h, relTo]
def reloc (mv : Int → Int → Bool → Int × Int) (b : Bool) (n : Nat) (xs : List Int) : List Int := relTo mv b 0 xs (List.replicate n 0)
/-- the value v is a new grid: two rows of its own, from block B on -/
def NewGrid (B : Nat) (w : World) (v : Value) (X O : List Int) : Prop :=
  ∃ gx go, v = .agg #[.slice (some ⟨gx, 0, none⟩) X.length X.length, .slice (some ⟨go, 0, none⟩) O.length O.length] ∧ gx ≠ go ∧ B ≤ gx ∧ B ≤ go ∧
    Arr w gx 3 (ints X) ∧ Arr w go 3 (ints O)
def Mid3 (B : Nat) (w : World) (g gx go : Nat) (vx vo : Value) (X O : List Int) : Prop :=
  gx ≠ go ∧ g ≠ gx ∧ g ≠ go ∧ B + 2 ≤ g ∧ B + 2 ≤ gx ∧ B + 2 ≤ go ∧
    Arr w g 24 [.slice (some ⟨gx, 0, none⟩) X.length X.length, .slice (some ⟨go, 0, none⟩) O.length O.length] ∧
    Arr w gx 3 (ints X) ∧ Arr w go 3 (ints O) ∧ Arr w B 24 [vx, vo] ∧ (∃ a b, Arr w (B + 1) 24 [a, b])
def Mid (B : Nat) (w : World) (s7 s14 s16 : Value) (vx vo : Value) (X O : List Int) : Prop :=
  ∃ g gx go, s7 = .pointer (some ⟨g, 0, none⟩) ∧ s14 = .slice (some ⟨gx, 0, none⟩) X.length X.length ∧ s16 = .slice (some ⟨go, 0, none⟩) O.length O.length ∧ Mid3 B w g gx go vx vo X O
theorem Mid3.setX {B : Nat} {w : World} {g gx go : Nat} {vx vo : Value} {X O : List Int} (h : Mid3 B w g gx go vx vo X O) (i : Nat) (x : Int) :
    Mid3 B (w.setCell ⟨gx, i, none⟩ (.int .i64 x)) g gx go vx vo (X.set i x) O := by
  obtain ⟨e1, e2, e3, e4, e5, e6, h1, h2, h3, h4, a, b, h5⟩ := h
  refine ⟨e1, e2, e3, e4, e5, e6, ?_, ?_, h3.far (fun h => e1 h.symm) _, h4.far (by show B ≠ gx; omega) _, a, b, h5.far (by show B + 1 ≠ gx; omega) _⟩
  · rw [List.length_set]; exact h1.far e2 _
  · rw [← ints_set]; exact h2.set _ _
theorem Mid3.setO {B : Nat} {w : World} {g gx go : Nat} {vx vo : Value} {X O : List Int} (h : Mid3 B w g gx go vx vo X O) (i : Nat) (x : Int) :
    Mid3 B (w.setCell ⟨go, i, none⟩ (.int .i64 x)) g gx go vx vo X (O.set i x) := by
  obtain ⟨e1, e2, e3, e4, e5, e6, h1, h2, h3, h4, a, b, h5⟩ := h
  refine ⟨e1, e2, e3, e4, e5, e6, ?_, h2.far e1 _, ?_, h4.far (by show B ≠ go; omega) _, a, b, h5.far (by show B + 1 ≠ go; omega) _⟩
  · rw [List.length_set]; exact h1.far e3 _
  · rw [← ints_set]; exact h3.set _ _
theorem mid_of {g gx go : Nat} (w wx : World) (vx vo : Value) (n : Nat)
    (h0 : wx.heap[w.heap.size]? = some (.cells #[vx, vo] 24 (0, 0))) (h1 : wx.heap[w.heap.size + 1]? = some (.cells #[.slice none 0 0, .slice none 0 0] 24 (0, 0)))
    (hg : wx.heap[g]? = some (.cells #[.slice (some ⟨gx, 0, none⟩) n n, .slice (some ⟨go, 0, none⟩) n n] 24 (0, 0)))
    (hx : wx.heap[gx]? = some (.cells (rowOf (List.replicate n (Value.int IntKind.i64 0))) 3 (0, 0))) (ho : wx.heap[go]? = some (.cells (rowOf (List.replicate n (Value.int IntKind.i64 0))) 3 (0, 0)))
    (e1 : gx ≠ go) (e2 : g ≠ gx) (e3 : g ≠ go) (e4 : w.heap.size + 2 ≤ g) (e5 : w.heap.size + 2 ≤ gx) (e6 : w.heap.size + 2 ≤ go) :
    Mid w.heap.size wx (.pointer (some ⟨g, 0, none⟩)) (.slice (some ⟨gx, 0, none⟩) n n) (.slice (some ⟨go, 0, none⟩) n n) vx vo (List.replicate n 0) (List.replicate n 0) := by
  refine ⟨g, gx, go, rfl, by rw [List.length_replicate], by rw [List.length_replicate], e1, e2, e3, e4, e5, e6, ?_, ?_, ?_, h0, _, _, h1⟩
  · simp only [List.length_replicate]; exact hg
  · rw [ints_zero]; exact hx
  · rw [ints_zero]; exact ho
set_option maxHeartbeats 1000000 in
theorem relocate_any (vx vo : Value) (X O : List Int) (n : Nat) (f : FuncId) (cap : Array Value) (mv : Int → Int → Bool → Int × Int) (w : World)
    (hcall : ∀ args W, Sem.run Tryz.prog (callFunc f args) W = .ok (.enter f args) W) (hxl : X.length ≤ 1000)
    (hX : Ints w vx X) (hO : Ints w vo O) (hlen : X.length = O.length) (hn : n ≤ 1000)
    (hfX : ∀ W, Below w.heap.size w W → ∀ (k : Nat) (h : k < X.length), Calls Tryz.prog f (#[.int .i64 k, .int .i64 X[k], .bool true] ++ cap) W fun e W' => e = .returned (.tuple #[.int .i64 (mv k X[k] true).1, .int .i64 (mv k X[k] true).2]) ∧ W = W')
    (hfO : ∀ W, Below w.heap.size w W → ∀ (k : Nat) (h : k < O.length), Calls Tryz.prog f (#[.int .i64 k, .int .i64 O[k], .bool false] ++ cap) W fun e W' => e = .returned (.tuple #[.int .i64 (mv k O[k] false).1, .int .i64 (mv k O[k] false).2]) ∧ W = W')
    (htX : ∀ (k : Nat) (h : k < X.length), (mv k X[k] true).1 < n) (htO : ∀ (k : Nat) (h : k < O.length), (mv k O[k] false).1 < n) :
    Calls Tryz.prog 90 #[.agg #[vx, vo], .int .i64 n, .func (.func f) #[] cap] w fun e w' => ∃ v, e = .returned v ∧ NewGrid w.heap.size w' v (reloc mv true n X) (reloc mv false n O) ∧ Below w.heap.size w w' := by
  obtain ⟨i0, hi0, hz0, hz1, hz2⟩ := info_parts info_int
  have hmk := fun W => run_make_one (P := Tryz.prog) 22 3 i0 (.int .i64 0) Tryz.underlying22 hi0 hz0 hz1 rfl (by rw [hz2]; decide) n (by omega) W
  clear hi0 hz0 hz1 hz2
  have HL := Lib.hid hlen
  clear hlen
  have HX := Lib.hid hfX
  have HO := Lib.hid hfO
  have TX := Lib.hid htX
  have TO := Lib.hid htO
  clear hfX hfO htX htO
  have hX0 := hX
  have hO0 := hO
  obtain ⟨A, c, rfl, hc, hh⟩ := hX
  obtain ⟨A', c', rfl, hc', hh'⟩ := hO
  clear hh hh'
  go_enter Tryz.func90, Tryz.ntmps90
  go_upto_region 1 with fail
  go_cut [7, 14, 16] (fun s7 s14 s16 wx => Mid w.heap.size wx s7 s14 s16 (.slice A X.length c) (.slice A' O.length c') (List.replicate n 0) (List.replicate n 0) ∧ Below w.heap.size w wx)
  case first =>
    go_region
    all_goals
      go_wp2_with fail
      go_meet
      refine ⟨?_, ?_⟩
      rotate_left
      · repeat (first | exact Below.refl _ _ | refine Below.alloc ?_ (by simp <;> omega) _ | refine Below.drew ?_)
      exact mid_of w _ _ _ n (by simp only [heap_push, heap_drew, Array.getElem?_push, Array.size_push]; repeat (first | rw [if_pos trivial] | rw [if_neg (by omega)])) (by simp only [heap_push, heap_drew, Array.getElem?_push, Array.size_push]; repeat (first | rw [if_pos trivial] | rw [if_neg (by omega)])) (by simp only [heap_push, heap_drew, Array.getElem?_push, Array.size_push]; repeat (first | rw [if_pos trivial] | rw [if_neg (by omega)])) (by simp only [heap_push, heap_drew, Array.getElem?_push, Array.size_push]; repeat (first | rw [if_pos trivial] | rw [if_neg (by omega)])) (by simp only [heap_push, heap_drew, Array.getElem?_push, Array.size_push]; repeat (first | rw [if_pos trivial] | rw [if_neg (by omega)])) (by omega) (by omega) (by omega) (by omega) (by omega) (by omega)
  case rest =>
    obtain ⟨⟨g, gx, go, rfl, e14, e16, hm⟩, hb⟩ := hcut
    clear e14 e16
    have hbx := hm.2.2.2.2.2.2.2.2.2.1.cell 0
    go_wp2_with fail
    clear hbx
    go_loopw [21] (fun i wr => ∃ (k : Nat) (aX aO : List Int), k ≤ X.length ∧ i = .int .i64 k ∧ Mid3 w.heap.size wr g gx go (.slice A X.length c) (.slice A' O.length c') aX aO ∧ Below w.heap.size w wr ∧
      Hid (aX.length = n ∧ aO.length = n ∧ reloc mv true n X = relTo mv true k (X.drop k) aX ∧ reloc mv false n O = relTo mv false k (O.drop k) aO)) (fun i _ => X.length - (intOf i).toNat)
    case atStart =>
      exact ⟨0, _, _, Nat.zero_le _, rfl, hm, hb, by simp, by simp, rfl, rfl⟩
    case round =>
      obtain ⟨k, aX, aO, hk, rfl, hm', hb', H⟩ := hrel
      clear hb hm
      by_cases hlt : k < X.length
      · obtain ⟨b, o, rfl, hbl, hcell⟩ := hX0.at_ hlt
        have hltO : k < O.length := by have := HL.out; omega
        obtain ⟨b', o', rfl, hbl', hcell'⟩ := hO0.at_ hltO
        have hcX := (hb'.cell (p := ⟨b, o + k, none⟩) hbl).trans hcell
        have hb0 := hm'.2.2.2.2.2.2.2.2.2.1.cell 0
        have hb1 := hm'.2.2.2.2.2.2.2.2.2.1.cell 1
        clear hcell
        have hs1 := TX.out k hlt
        have hs2 := TO.out k hltO
        have hS1 : Hid (relStep mv true k X[k] aX = if 0 ≤ (mv k X[k] true).1 then aX.set (mv k X[k] true).1.toNat (mv k X[k] true).2 else aX) := rfl
        have hS2 : Hid (relStep mv false k O[k] aO = if 0 ≤ (mv k O[k] false).1 then aO.set (mv k O[k] false).1.toNat (mv k O[k] false).2 else aO) := rfl
        have F1 := Lib.hid (HX.out wr hb' k hlt)
        have F2 := Lib.hid (fun W hW => HO.out W hW k hltO)
        rw [relTo_drop mv true X aX hlt, relTo_drop mv false O aO hltO] at H
        generalize relStep mv true k X[k] aX = aX' at *
        generalize relStep mv false k O[k] aO = aO' at *
        generalize mv k X[k] true = p1 at *
        generalize mv k O[k] false = p2 at *
        generalize X[k] = x at *
        generalize O[k] = y at *
        clear HX HO TX TO
        obtain ⟨c1, r1⟩ := p1
        obtain ⟨c2, r2⟩ := p2
        simp only at hs1 hs2 hS1 hS2 F1 F2
        by_cases h1 : 0 ≤ c1
        · obtain ⟨m1, rfl⟩ := Int.eq_ofNat_of_zero_le h1
          have hg0 := hm'.2.2.2.2.2.2.1.cell 0
          have hn1 : m1 < aX.length := by have := H.out.1; omega
          have hst := (hm'.2.2.2.2.2.2.2.1.cell m1).trans (ints_get aX hn1)
          have hfz := hm'.2.2.2.2.2.2.2.1.frozen m1
          go_wp2_with fail
          refine F1.out.mono ?_
          rintro e w' ⟨rfl, rfl⟩
          have hm2 := hm'.setX m1 r1
          have hb2 := hb'.setCell (p := ⟨gx, m1, none⟩) (by have := hm'.2.2.2.2.1; show w.heap.size ≤ gx; omega) (.int .i64 r1)
          have hcO := (hb2.cell (p := ⟨b', o' + k, none⟩) hbl').trans hcell'
          clear hb0 hb1
          have hb1 := hm2.2.2.2.2.2.2.2.2.2.1.cell 1
          have hE : aX' = aX.set m1 r1 := by rw [hS1.out, if_pos h1]; rfl
          subst hE
          by_cases h2 : 0 ≤ c2
          · obtain ⟨m2, rfl⟩ := Int.eq_ofNat_of_zero_le h2
            have hg1 := hm2.2.2.2.2.2.2.1.cell 1
            have hn2 : m2 < aO.length := by have := H.out.2.1; omega
            have hst2 := (hm2.2.2.2.2.2.2.2.2.1.cell m2).trans (ints_get aO hn2)
            have hfz2 := hm2.2.2.2.2.2.2.2.2.1.frozen m2
            have hE : aO' = aO.set m2 r2 := by rw [hS2.out, if_pos h2]; rfl
            subst hE
            go_wp2_with fail
            refine (F2.out _ hb2).mono ?_
            rintro e w' ⟨rfl, rfl⟩
            go_wp2_with fail
            go_roundw
            case rel => exact ⟨k + 1, _, _, by omega, by go_num, hm2.setO m2 r2, hb2.setCell (p := ⟨go, m2, none⟩) (by have := hm'.2.2.2.2.2.1; show w.heap.size ≤ go; omega) _, by simp [H.out.1], by simp [H.out.2.1], H.out.2.2.1, H.out.2.2.2⟩
            case measure => simp [intOf]; omega
          · have hE : aO' = aO := by rw [hS2.out, if_neg (by omega)]
            subst hE
            go_wp2_with fail
            refine (F2.out _ hb2).mono ?_
            rintro e w' ⟨rfl, rfl⟩
            go_wp2_with fail
            go_roundw
            case rel => exact ⟨k + 1, _, _, by omega, by go_num, hm2, hb2, by simp [H.out.1], by simp [H.out.2.1], H.out.2.2.1, H.out.2.2.2⟩
            case measure => simp [intOf]; omega
        · go_wp2_with fail
          refine F1.out.mono ?_
          rintro e w' ⟨rfl, rfl⟩
          have hcO := (hb'.cell (p := ⟨b', o' + k, none⟩) hbl').trans hcell'
          clear hb0 hb1
          have hb1 := hm'.2.2.2.2.2.2.2.2.2.1.cell 1
          have hE : aX' = aX := by rw [hS1.out, if_neg (by omega)]
          subst hE
          by_cases h2 : 0 ≤ c2
          · obtain ⟨m2, rfl⟩ := Int.eq_ofNat_of_zero_le h2
            have hg1 := hm'.2.2.2.2.2.2.1.cell 1
            have hn2 : m2 < aO.length := by have := H.out.2.1; omega
            have hst2 := (hm'.2.2.2.2.2.2.2.2.1.cell m2).trans (ints_get aO hn2)
            have hfz2 := hm'.2.2.2.2.2.2.2.2.1.frozen m2
            have hE : aO' = aO.set m2 r2 := by rw [hS2.out, if_pos h2]; rfl
            subst hE
            go_wp2_with fail
            refine (F2.out _ hb').mono ?_
            rintro e w' ⟨rfl, rfl⟩
            go_wp2_with fail
            go_roundw
            case rel => exact ⟨k + 1, _, _, by omega, by go_num, hm'.setO m2 r2, hb'.setCell (p := ⟨go, m2, none⟩) (by have := hm'.2.2.2.2.2.1; show w.heap.size ≤ go; omega) _, by simp [H.out.1], by simp [H.out.2.1], H.out.2.2.1, H.out.2.2.2⟩
            case measure => simp [intOf]; omega
          · have hE : aO' = aO := by rw [hS2.out, if_neg (by omega)]
            subst hE
            go_wp2_with fail
            refine (F2.out _ hb').mono ?_
            rintro e w' ⟨rfl, rfl⟩
            go_wp2_with fail
            go_roundw
            case rel => exact ⟨k + 1, _, _, by omega, by go_num, hm', hb', by simp [H.out.1], by simp [H.out.2.1], H.out.2.2.1, H.out.2.2.2⟩
            case measure => simp [intOf]; omega
      · obtain rfl : k = X.length := by omega
        obtain ⟨hl1, hl2, hr1, hr2⟩ := H.out
        rw [List.drop_length] at hr1
        rw [HL.out, List.drop_length] at hr2
        have hg0 := hm'.2.2.2.2.2.2.1.cell 0
        have hg1 := hm'.2.2.2.2.2.2.1.cell 1
        obtain ⟨e1, e2, e3, e4, e5, e6, q1, q2, q3, q4, a, b, q5⟩ := hm'
        have hz0 := q5.cell 0
        have hz1 := q5.cell 1
        have hz2 := q5.frozen 0
        have hz3 := q5.frozen 1
        have R1 := Lib.hid hr1
        have R2 := Lib.hid hr2
        have hres : Hid (Arr ((wr.setCell ⟨w.heap.size + 1, 0, none⟩ (.slice (some ⟨gx, 0, none⟩) aX.length aX.length)).setCell ⟨w.heap.size + 1, 1, none⟩ (.slice (some ⟨go, 0, none⟩) aO.length aO.length)) (w.heap.size + 1) 24
          [.slice (some ⟨gx, 0, none⟩) aX.length aX.length, .slice (some ⟨go, 0, none⟩) aO.length aO.length]) := (q5.set 0 _).set 1 _
        clear hr1 hr2 hl1 hl2 q1 q4 q5 hX0 hO0
        go_wp2_with fail
        refine bodyPost_ret (v := .agg #[.slice (some ⟨gx, 0, none⟩) aX.length aX.length, .slice (some ⟨go, 0, none⟩) aO.length aO.length]) (results_cell_row Tryz.results90 _ _ (w.heap.size + 1) 24 _ (0, 0) _ rfl hres.out Tryz.underlying24 rfl info_grid) rfl ⟨_, rfl, ?_, ?_⟩
        · rw [R1.out, R2.out]
          exact ⟨gx, go, rfl, e1, by omega, by omega, (q2.far (by show gx ≠ w.heap.size + 1; omega) _).far (by show gx ≠ w.heap.size + 1; omega) _, (q3.far (by show go ≠ w.heap.size + 1; omega) _).far (by show go ≠ w.heap.size + 1; omega) _⟩
        · exact (hb'.setCell (by show w.heap.size ≤ w.heap.size + 1; omega) _).setCell (by show w.heap.size ≤ w.heap.size + 1; omega) _
end Go.Proofs.YteliflcbegcdlaaGreatDoor

namespace Go.Proofs.YteliflcbegcdlaaGreatDoor
open Go.RowKit
set_option linter.unusedVariables false
def mvT (c r : Int) (_ : Bool) : Int × Int := (r, c)
def mvRot (n : Int) (c r : Int) (_ : Bool) : Int × Int := ((c + n - 1) % n, r)
def mvSwap (a : Int) (c r : Int) (_ : Bool) : Int × Int := (if c = a then c + 1 else if c = a + 1 then c - 1 else c, r)
def mvDel (low a : Int) (c r : Int) (_ : Bool) : Int × Int := (if c = a then -1 else if a < c then c - 1 else c, if low < r then r - 1 else r)
def mvAdd (r0 : Int) (stays : Bool) (a : Int) (c r : Int) (isX : Bool) : Int × Int := (if a ≤ c then c + 1 else c, if r0 < r ∨ (r = r0 ∧ isX ≠ stays) then r + 1 else r)
theorem ret_pair {a b c d : Int} (h1 : a = c) (h2 : b = d) : Ending.returned (.tuple #[.int .i64 a, .int .i64 b]) = .returned (.tuple #[.int .i64 c, .int .i64 d]) := by rw [h1, h2]
theorem transpose1_any (c r : Int) (b : Bool) (w : World) :
    Calls Tryz.prog 96 #[.int .i64 c, .int .i64 r, .bool b] w fun e w' => e = .returned (.tuple #[.int .i64 (mvT c r b).1, .int .i64 (mvT c r b).2]) ∧ w = w' := by
  go_enter Tryz.func96, Tryz.ntmps96
  go_wp2
  go_ret2
  exact ⟨rfl, rfl⟩
theorem columns1_any (c r n : Int) (b : Bool) (g : Nat) (w : World) (h0 : 0 ≤ c) (h1 : c ≤ 1000) (h2 : 1 ≤ n) (h3 : n ≤ 1000) (hc : w.cell? ⟨g, 0, none⟩ = some (.int .i64 n)) :
    Calls Tryz.prog 91 #[.int .i64 c, .int .i64 r, .bool b, .pointer (some ⟨g, 0, none⟩)] w fun e w' => e = .returned (.tuple #[.int .i64 (mvRot n c r b).1, .int .i64 (mvRot n c r b).2]) ∧ w = w' := by
  have hz : (n == 0) = false := by simp; omega
  go_enter Tryz.func91, Tryz.ntmps91
  go_wp2
  go_ret2
  exact ⟨rfl, rfl⟩
set_option maxHeartbeats 400000 in
theorem columns2_any (c r a : Int) (b : Bool) (g : Nat) (w : World) (h0 : 0 ≤ c) (h1 : c ≤ 1000) (h2 : 0 ≤ a) (h3 : a ≤ 1000) (hc : w.cell? ⟨g, 2, none⟩ = some (.int .i64 a)) :
    Calls Tryz.prog 93 #[.int .i64 c, .int .i64 r, .bool b, .pointer (some ⟨g, 0, none⟩)] w fun e w' => e = .returned (.tuple #[.int .i64 (mvSwap a c r b).1, .int .i64 (mvSwap a c r b).2]) ∧ w = w' := by
  by_cases e1 : c = a
  · have b1 : (c == a) = true := by simpa using e1
    have E := Lib.hid e1
    clear e1
    go_enter Tryz.func93, Tryz.ntmps93
    go_wp2
    go_ret2
    exact ⟨ret_pair (by simp [mvSwap, E.out]) rfl, rfl⟩
  · have b1 : (c == a) = false := by simpa using e1
    by_cases e2 : c = a + 1
    · have b2 : (c == a + 1) = true := by simpa using e2
      have E := Lib.hid e1
      have E2 := Lib.hid e2
      clear e1 e2
      go_enter Tryz.func93, Tryz.ntmps93
      go_wp2
      go_ret2
      exact ⟨ret_pair (by simp only [mvSwap]; rw [if_neg E.out, if_pos E2.out]) rfl, rfl⟩
    · have b2 : (c == a + 1) = false := by simpa using e2
      have E := Lib.hid e1
      have E2 := Lib.hid e2
      clear e1 e2
      go_enter Tryz.func93, Tryz.ntmps93
      go_wp2
      go_ret2
      exact ⟨ret_pair (by simp only [mvSwap]; rw [if_neg E.out, if_neg E2.out]) rfl, rfl⟩
set_option maxHeartbeats 400000 in
theorem destabilize1_any (c r low a : Int) (b : Bool) (gl ga : Nat) (w : World) (h0 : 0 ≤ c) (h1 : c ≤ 1000) (h2 : 0 ≤ a) (h3 : a ≤ 1000) (h4 : 0 ≤ r) (h5 : r ≤ 1000) (h6 : 0 ≤ low) (h7 : low ≤ 1000)
    (hc : w.cell? ⟨gl, 0, none⟩ = some (.int .i64 low)) (hc' : w.cell? ⟨ga, 0, none⟩ = some (.int .i64 a)) :
    Calls Tryz.prog 104 #[.int .i64 c, .int .i64 r, .bool b, .pointer (some ⟨gl, 0, none⟩), .pointer (some ⟨ga, 0, none⟩)] w fun e w' => e = .returned (.tuple #[.int .i64 (mvDel low a c r b).1, .int .i64 (mvDel low a c r b).2]) ∧ w = w' := by
  by_cases e1 : c = a
  · have b1 : (c == a) = true := by simpa using e1
    have E := Lib.hid e1
    clear e1
    by_cases e3 : low < r
    all_goals
      go_enter Tryz.func104, Tryz.ntmps104
      go_wp2
      go_ret2
      exact ⟨ret_pair (by simp only [mvDel]; rw [if_pos E.out]) (by simp only [mvDel]; first | rw [if_pos (by assumption)] | rw [if_neg (by omega)]), rfl⟩
  · have b1 : (c == a) = false := by simpa using e1
    have E := Lib.hid e1
    by_cases e2 : a < c
    · clear e1
      by_cases e3 : low < r
      all_goals
        go_enter Tryz.func104, Tryz.ntmps104
        go_wp2
        go_ret2
        exact ⟨ret_pair (by simp only [mvDel]; rw [if_neg E.out, if_pos (by assumption)]) (by simp only [mvDel]; first | rw [if_pos (by assumption)] | rw [if_neg (by omega)]), rfl⟩
    · clear e1
      by_cases e3 : low < r
      all_goals
        go_enter Tryz.func104, Tryz.ntmps104
        go_wp2
        go_ret2
        exact ⟨ret_pair (by simp only [mvDel]; rw [if_neg E.out, if_neg (by omega)]) (by simp only [mvDel]; first | rw [if_pos (by assumption)] | rw [if_neg (by omega)]), rfl⟩
set_option maxHeartbeats 1000000 in
theorem stabilize1_any (c r r0 a : Int) (b stays : Bool) (g1 g2 g3 : Nat) (w : World) (h0 : 0 ≤ c) (h1 : c ≤ 1000) (h2 : 0 ≤ a) (h3 : a ≤ 1000) (h4 : 0 ≤ r) (h5 : r ≤ 1000) (h6 : 0 ≤ r0) (h7 : r0 ≤ 1000)
    (hc : w.cell? ⟨g1, 0, none⟩ = some (.int .i64 r0)) (hc' : w.cell? ⟨g2, 0, none⟩ = some (.bool stays)) (hc'' : w.cell? ⟨g3, 0, none⟩ = some (.int .i64 a)) :
    Calls Tryz.prog 105 #[.int .i64 c, .int .i64 r, .bool b, .pointer (some ⟨g1, 0, none⟩), .pointer (some ⟨g2, 0, none⟩), .pointer (some ⟨g3, 0, none⟩)] w fun e w' => e = .returned (.tuple #[.int .i64 (mvAdd r0 stays a c r b).1, .int .i64 (mvAdd r0 stays a c r b).2]) ∧ w = w' := by
  by_cases e1 : r0 < r
  · by_cases e2 : a ≤ c
    all_goals
      go_enter Tryz.func105, Tryz.ntmps105
      go_wp2
      go_ret2
      exact ⟨ret_pair (by simp only [mvAdd]; first | rw [if_pos (by assumption)] | rw [if_neg (by omega)]) (by simp only [mvAdd]; rw [if_pos (.inl (by assumption))]), rfl⟩
  · by_cases e3 : r = r0
    · have b3 : (r == r0) = true := by simpa using e3
      have E := Lib.hid e3
      clear e3
      cases b <;> cases stays
      all_goals
        by_cases e2 : a ≤ c
        all_goals
          go_enter Tryz.func105, Tryz.ntmps105
          go_wp2
          go_ret2
          exact ⟨ret_pair (by simp only [mvAdd]; first | rw [if_pos (by assumption)] | rw [if_neg (by omega)]) (by simp only [mvAdd]; first | rw [if_pos (.inr ⟨E.out, by decide⟩)] | rw [if_neg (by rintro (h | ⟨_, h⟩); omega; exact h rfl)]), rfl⟩
    · have b3 : (r == r0) = false := by simpa using e3
      have E := Lib.hid e3
      clear e3
      by_cases e2 : a ≤ c
      all_goals
        go_enter Tryz.func105, Tryz.ntmps105
        go_wp2
        go_ret2
        exact ⟨ret_pair (by simp only [mvAdd]; first | rw [if_pos (by assumption)] | rw [if_neg (by omega)]) (by simp only [mvAdd]; rw [if_neg (by rintro (h | ⟨h, _⟩); omega; exact E.out h)]), rfl⟩
def limAt (k n : Int) : Int := if k = 1 then 1 else if k = 2 then n - 1 else if k = 3 then n else if k = 4 then n + 1 else 0
def limVar (k n : Int) : Int := if k = 1 then 1 else if k = 2 then 1 else if k = 3 then 1 else if k = 4 then 2 * n else 0
set_option maxHeartbeats 400000 in
theorem limits_any (k n : Int) (w : World) (h0 : 0 ≤ n) (h1 : n ≤ 100) :
    Calls Tryz.prog 73 #[.int .i64 k, .int .i64 n] w fun e w' => e = .returned (.tuple #[.int .i64 (limAt k n), .int .i64 (limVar k n)]) ∧ w = w' := by
  by_cases e1 : k = 1
  · subst e1
    go_enter Tryz.func73, Tryz.ntmps73
    go_wp2
    go_ret2
    exact ⟨rfl, rfl⟩
  by_cases e2 : k = 2
  · subst e2
    go_enter Tryz.func73, Tryz.ntmps73
    go_wp2
    go_ret2
    exact ⟨rfl, rfl⟩
  by_cases e3 : k = 3
  · subst e3
    go_enter Tryz.func73, Tryz.ntmps73
    go_wp2
    go_ret2
    exact ⟨rfl, rfl⟩
  by_cases e4 : k = 4
  · subst e4
    go_enter Tryz.func73, Tryz.ntmps73
    go_wp2
    go_ret2
    exact ⟨rfl, rfl⟩
  have b1 : (k == 1) = false := by simpa using e1
  have b2 : (k == 2) = false := by simpa using e2
  have b3 : (k == 3) = false := by simpa using e3
  have b4 : (k == 4) = false := by simpa using e4
  have E : limAt k n = 0 := by simp [limAt, e1, e2, e3, e4]
  have F : limVar k n = 0 := by simp [limVar, e1, e2, e3, e4]
  rw [E, F]
  clear E F e1 e2 e3 e4
  go_enter Tryz.func73, Tryz.ntmps73
  go_wp2
  go_ret2
  exact ⟨rfl, rfl⟩
end Go.Proofs.YteliflcbegcdlaaGreatDoor

namespace Go.Proofs.YteliflcbegcdlaaGreatDoor
set_option linter.unusedVariables false
open Go.RowKit
/-- each element is in range, and none occurs before -/
def permFrom (n : Nat) (seen : List Int) : List Int → Bool
  | [] => true
  | x :: xs => decide (0 ≤ x) && decide (x < n) && !(seen.contains x) && permFrom n (seen ++ [x]) xs
def permB (l : List Int) : Bool := permFrom l.length [] l
def seenRow (n : Nat) (s : List Int) : List Value := (List.range n).map fun i : Nat => Value.bool (s.contains (i : Int))
theorem seenRow_get {n : Nat} {s : List Int} {i : Nat} (h : i < n) : (seenRow n s)[i]? = some (.bool (s.contains (i : Int))) := by
  simp [seenRow, h]
theorem seenRow_nil (n : Nat) : seenRow n [] = List.replicate n (.bool false) := by
  apply List.ext_getElem?
  intro i
  by_cases h : i < n <;> simp [seenRow, h]
theorem seenRow_set {n : Nat} {s : List Int} {i : Nat} (_ : i < n) : (seenRow n s).set i (.bool true) = seenRow n (s ++ [(i : Int)]) := by
  apply List.ext_getElem?
  intro j
  rw [List.getElem?_set]
  by_cases hj : j < n
  · by_cases e : i = j
    · subst e; simp [seenRow, hj]
    · simp [seenRow, hj, e]
      intro h; omega
  · simp [seenRow, hj]; omega
theorem permFrom_drop (l : List Int) (k : Nat) (h : k < l.length) (m : Nat) :
    permFrom m (l.take k) (l.drop k) = (decide (0 ≤ l[k]) && decide (l[k] < m) && !((l.take k).contains l[k]) && permFrom m (l.take (k + 1)) (l.drop (k + 1))) := by
  rw [List.drop_eq_getElem_cons h, permFrom, List.take_succ_eq_append_getElem h]
theorem info_bool : (Tryz.prog.info? 4).map (fun i => (i.zero, i.size, i.bytes)) = some (some (.bool false), 1, 1) := by kernel_rfl
set_option maxHeartbeats 400000 in
theorem permutation_any (v : Value) (l : List Int) (w : World) (h : Ints w v l) (hn : l.length ≤ 1000) :
    Calls Tryz.prog 44 #[v] w fun e w' => e = .returned (.bool (permB l)) ∧ Below w.heap.size w w' := by
  have h0 := h
  obtain ⟨A, c, rfl, hc, hh⟩ := h
  clear hh
  obtain ⟨i0, hi0, hz0, hz1, hz2⟩ := info_parts info_bool
  have hmk := fun W => run_make_one (P := Tryz.prog) 101 4 i0 (.bool false) Tryz.underlying101 hi0 hz0 hz1 rfl (by rw [hz2]; decide) l.length (by omega) W
  clear hi0 hz0 hz1 hz2
  go_enter Tryz.func44, Tryz.ntmps44
  go_wp2
  go_loopw [11] (fun i wr => ∃ k : Nat, k ≤ l.length ∧ i = .int .i64 k ∧ Arr wr w.heap.size 4 (seenRow l.length (l.take k)) ∧ Below w.heap.size w wr ∧ Hid (permB l = permFrom l.length (l.take k) (l.drop k))) (fun i _ => l.length - (intOf i).toNat)
  case atStart => 
    refine ⟨0, Nat.zero_le _, rfl, ?_, (Below.refl _ _).alloc (Nat.le_refl _) _, rfl⟩
    rw [List.take_zero, seenRow_nil]
    exact Arr.new w 4 (List.replicate l.length (.bool false))
  case round =>
    obtain ⟨k, hk, rfl, harr, hbel, hp⟩ := hrel
    by_cases hlt : k < l.length
    · obtain ⟨b, o, rfl, hb, hcell⟩ := h0.at_ hlt
      have hcell' := (hbel.cell (p := ⟨b, o + k, none⟩) hb).trans hcell
      rw [permFrom_drop l k hlt] at hp
      have htk : Hid (l.take (k + 1) = l.take k ++ [l[k]]) := List.take_succ_eq_append_getElem hlt
      generalize l[k] = x at *
      clear hcell h0
      by_cases hx0 : x < 0
      · have hx0' : decide (0 ≤ x) = false := by simp; omega
        rw [hx0'] at hp
        simp only [Bool.false_and] at hp
        clear hx0'
        go_wp2
        go_ret
        exact ⟨by rw [hp.out]; rfl, hbel⟩
      by_cases hx1 : x < l.length
      · obtain ⟨m, rfl⟩ := Int.eq_ofNat_of_zero_le (Int.not_lt.1 hx0)
        have hm : m < l.length := by omega
        have hs := (harr.cell m).trans (seenRow_get hm)
        have hf := harr.frozen m
        by_cases hsn : (l.take k).contains (m : Int) = true
        · rw [hsn] at hs hp
          simp only [Bool.not_true, Bool.and_false, Bool.false_and] at hp
          go_wp2
          go_ret
          exact ⟨by rw [hp.out]; rfl, hbel⟩
        · rw [Bool.not_eq_true] at hsn
          rw [hsn] at hs hp
          have e1 : decide ((0 : Int) ≤ (m : Int)) = true := by simp
          have e2 : decide ((m : Int) < (l.length : Int)) = true := by simp; omega
          rw [e1, e2] at hp
          simp only [Bool.not_false, Bool.and_true, Bool.true_and] at hp
          clear e1 e2 hsn hx0 hx1
          go_wp2
          go_roundw
          case rel => exact ⟨k + 1, by omega, by go_num, by rw [htk.out, ← seenRow_set hm]; exact harr.set _ _, hbel.setCell (Nat.le_refl _) _, hp⟩
          case measure => simp [intOf]; omega
      · have hx0' : decide (x < (l.length : Int)) = false := by simp; omega
        rw [hx0'] at hp
        simp only [Bool.false_and, Bool.and_false] at hp
        clear hx0'
        go_wp2
        go_ret
        exact ⟨by rw [hp.out]; rfl, hbel⟩
    · obtain rfl : k = l.length := by omega
      rw [List.drop_length] at hp
      go_wp2
      go_ret
      exact ⟨by rw [hp.out]; rfl, hbel⟩
end Go.Proofs.YteliflcbegcdlaaGreatDoor

namespace Go.Proofs.YteliflcbegcdlaaGreatDoor
set_option linter.unusedVariables false
open Go.RowKit
/-- every element lies from 0 on below n -/
def Rows (n : Nat) (l : List Int) : Prop := ∀ x ∈ l, 0 ≤ x ∧ x < n
theorem Rows.get {n : Nat} {l : List Int} (h : Rows n l) {k : Nat} (hk : k < l.length) : 0 ≤ l[k] ∧ l[k] < n := h _ (List.getElem_mem hk)
theorem NewGrid.mono {B B' : Nat} {w : World} {v : Value} {X O : List Int} (h : NewGrid B w v X O) (hB : B' ≤ B) : NewGrid B' w v X O := by
  obtain ⟨gx, go, e, h1, h2, h3, h4, h5⟩ := h
  exact ⟨gx, go, e, h1, by omega, by omega, h4, h5⟩
set_option maxHeartbeats 400000 in
theorem transpose_any (vx vo : Value) (X O : List Int) (w : World) (hX : Ints w vx X) (hO : Ints w vo O) (hlen : X.length = O.length) (hn : X.length ≤ 1000) (rX : Rows X.length X) (rO : Rows X.length O) :
    Calls Tryz.prog 75 #[.agg #[vx, vo]] w fun e w' => ∃ v, e = .returned v ∧ NewGrid w.heap.size w' v (reloc mvT true X.length X) (reloc mvT false X.length O) ∧ Below w.heap.size w w' := by
  have HL := Lib.hid hlen
  clear hlen
  have hX0 := hX
  have hO0 := hO
  obtain ⟨A, c, rfl, hc, hh⟩ := hX
  obtain ⟨A', c', rfl, hc', hh'⟩ := hO
  clear hh hh'
  go_enter Tryz.func75, Tryz.ntmps75
  go_wp2_with fail
  refine (relocate_any _ _ X O X.length 96 #[] mvT _ Tryz.call96 hn ((hX0.alloc _).alloc _) ((hO0.alloc _).alloc _) HL.out hn
    (fun W _ k h => transpose1_any _ _ _ W) (fun W _ k h => transpose1_any _ _ _ W) (fun k h => (rX.get h).2) (fun k h => (rO.get h).2)).mono ?_
  rintro e w1 ⟨v, rfl, ⟨gx, go, rfl, e1, e2, e3, a1, a2⟩, hb⟩
  have hr : Arr w1 (w.heap.size + 1) 24 [.slice none 0 0, .slice none 0 0] := (Arr.newAt (w.alloc _) _ [_, _] _ (by simp)).below hb (by simp)
  have hbw : Below w.heap.size w w1 := (((Below.refl _ _).alloc (Nat.le_refl _) _).alloc (by simp) _).trans (hb.mono (by simp <;> omega))
  simp only [heap_push, Array.size_push] at e2 e3
  clear hb
  have s0 := hr.cell 0
  have s1 := hr.cell 1
  have s2 := hr.frozen 0
  have s3 := hr.frozen 1
  have hres := Lib.hid ((hr.set 0 (.slice (some ⟨gx, 0, none⟩) (reloc mvT true X.length X).length (reloc mvT true X.length X).length)).set 1 (.slice (some ⟨go, 0, none⟩) (reloc mvT false X.length O).length (reloc mvT false X.length O).length))
  go_wp2_with fail
  refine bodyPost_ret (v := .agg #[.slice (some ⟨gx, 0, none⟩) (reloc mvT true X.length X).length (reloc mvT true X.length X).length, .slice (some ⟨go, 0, none⟩) (reloc mvT false X.length O).length (reloc mvT false X.length O).length]) (results_cell_row Tryz.results75 _ _ (w.heap.size + 1) 24 _ (0, 0) _ rfl hres.out Tryz.underlying24 rfl info_grid) rfl ⟨_, rfl, ?_, ?_⟩
  · exact ⟨gx, go, rfl, e1, by omega, by omega, a1.far2 (r := w.heap.size + 1) (by omega), a2.far2 (r := w.heap.size + 1) (by omega)⟩
  · exact bset2 (r := w.heap.size + 1) hbw (by omega)
/-- grid.Valid as a function of the two lists -/
def neqB (X O : List Int) : Bool := (X.zip O).all fun p => p.1 != p.2
def validB (X O : List Int) : Bool := decide (2 ≤ X.length) && decide (X.length ≤ 40) && decide (O.length = X.length) && neqB X O && permB X && permB O
theorem neqB_drop (X O : List Int) {k : Nat} (h : k < X.length) (h' : k < O.length) : neqB (X.drop k) (O.drop k) = ((X[k] != O[k]) && neqB (X.drop (k + 1)) (O.drop (k + 1))) := by
  rw [List.drop_eq_getElem_cons h, List.drop_eq_getElem_cons h']; simp only [neqB, List.zip_cons_cons, List.all_cons]
set_option maxHeartbeats 1000000 in
theorem valid_any (vx vo : Value) (X O : List Int) (w : World) (hX : Ints w vx X) (hO : Ints w vo O) (hn : X.length ≤ 1000) (hn' : O.length ≤ 1000) :
    Calls Tryz.prog 28 #[.agg #[vx, vo]] w fun e w' => e = .returned (.bool (validB X O)) ∧ Below w.heap.size w w' := by
  have hX0 := hX
  have hO0 := hO
  obtain ⟨A, c, rfl, hc, hh⟩ := hX
  obtain ⟨A', c', rfl, hc', hh'⟩ := hO
  clear hh hh'
  by_cases t1 : X.length < 2
  · have hfin := Lib.hid (show validB X O = false by simp [validB]; omega)
    go_enter Tryz.func28, Tryz.ntmps28
    go_wp2
    go_ret
    exact ⟨by rw [hfin.out]; rfl, (Below.refl _ _).alloc (Nat.le_refl _) _⟩
  by_cases t2 : 40 < X.length
  · have hfin := Lib.hid (show validB X O = false by simp [validB]; omega)
    go_enter Tryz.func28, Tryz.ntmps28
    go_wp2
    go_ret
    exact ⟨by rw [hfin.out]; rfl, (Below.refl _ _).alloc (Nat.le_refl _) _⟩
  by_cases t3 : O.length = X.length
  rotate_left
  · have hfin := Lib.hid (show validB X O = false by simp [validB, t3])
    have t4 : ((O.length : Int) != (X.length : Int)) = true := by simp; omega
    clear t3
    go_enter Tryz.func28, Tryz.ntmps28
    go_wp2
    go_ret
    exact ⟨by rw [hfin.out]; rfl, (Below.refl _ _).alloc (Nat.le_refl _) _⟩
  have t4 : ((O.length : Int) != (X.length : Int)) = false := by simp; omega
  have q1 : decide (2 ≤ X.length) = true := by simp; omega
  have q2 : decide (X.length ≤ 40) = true := by simp; omega
  have q3 : decide (O.length = X.length) = true := by simp; omega
  have hv := Lib.hid (show validB X O = (neqB (X.drop 0) (O.drop 0) && permB X && permB O) by simp only [validB, q1, q2, q3, Bool.true_and, List.drop_zero])
  clear q1 q2 q3
  have HL := Lib.hid t3
  clear t3
  go_enter Tryz.func28, Tryz.ntmps28
  go_wp2_with fail
  clear t4
  go_loopw [22] (fun i wr => ∃ k : Nat, k ≤ X.length ∧ i = .int .i64 k ∧ Arr wr w.heap.size 24 [.slice A X.length c, .slice A' O.length c'] ∧ Below w.heap.size w wr ∧ Hid (validB X O = (neqB (X.drop k) (O.drop k) && permB X && permB O))) (fun i _ => X.length - (intOf i).toNat)
  case atStart => exact ⟨0, Nat.zero_le _, rfl, Arr.new w _ [_, _], (Below.refl _ _).alloc (Nat.le_refl _) _, hv⟩
  case round =>
    clear hv
    obtain ⟨k, hk, rfl, harr, hbel, hv⟩ := hrel
    have hb0 := harr.cell 0
    have hb1 := harr.cell 1
    by_cases hlt : k < X.length
    · have hlt' : k < O.length := by rw [HL.out]; exact hlt
      obtain ⟨b, o, rfl, hbl, hcell⟩ := hX0.at_ hlt
      obtain ⟨b', o', rfl, hbl', hcell'⟩ := hO0.at_ hlt'
      have hcX := (hbel.cell (p := ⟨b, o + k, none⟩) hbl).trans hcell
      have hcO := (hbel.cell (p := ⟨b', o' + k, none⟩) hbl').trans hcell'
      rw [neqB_drop X O hlt hlt'] at hv
      generalize X[k] = x at *
      generalize O[k] = y at *
      clear hcell hcell' hX0 hO0
      by_cases hxy : x = y
      · have h1 : (x == y) = true := by simpa using hxy
        have hfin := Lib.hid (show validB X O = false by rw [hv.out]; simp [bne, h1])
        clear hxy
        go_wp2_with fail
        go_quiet (fail)
        go_wp2_with fail
        go_ret
        exact ⟨by rw [hfin.out]; rfl, bdrewN hbel _⟩
      · have h1 : (x == y) = false := by simpa using hxy
        have hv' := Lib.hid (show validB X O = (neqB (X.drop (k + 1)) (O.drop (k + 1)) && permB X && permB O) by rw [hv.out]; simp [bne, h1])
        clear hxy
        go_wp2_with fail
        go_quiet (fail)
        go_wp2_with fail
        go_roundw
        case rel => exact ⟨k + 1, by omega, by go_num, harr.drewN _, bdrewN hbel _, hv'⟩
        case measure => simp [intOf]; omega
    · obtain rfl : k = X.length := by omega
      rw [List.drop_length] at hv
      have hv := Lib.hid (show validB X O = (permB X && permB O) by rw [hv.out]; simp [neqB])
      go_wp2_with fail
      refine (permutation_any _ X _ (hX0.below hbel) hn).mono ?_
      rintro e w1 ⟨rfl, hb2⟩
      have hO1 := (hO0.below hbel).below hb2
      have harr1 := harr.below hb2 harr.lt
      have hb1 := harr1.cell 1
      have hbel1 := hbel.trans (hb2.mono hbel.size)
      generalize permB X = px at *
      cases px with
      | false =>
        have hfin := Lib.hid (show validB X O = false by rw [hv.out]; rfl)
        go_wp2_with fail
        go_ret
        exact ⟨by rw [hfin.out]; rfl, hbel1⟩
      | true =>
        have hfin := Lib.hid (show validB X O = permB O by rw [hv.out]; rfl)
        go_wp2_with fail
        refine (permutation_any _ O _ hO1 hn').mono ?_
        rintro e w2 ⟨rfl, hb3⟩
        go_wp2_with fail
        go_ret
        exact ⟨by rw [hfin.out]; rfl, hbel1.trans (hb3.mono hbel1.size)⟩
end Go.Proofs.YteliflcbegcdlaaGreatDoor

namespace Go.Proofs.YteliflcbegcdlaaGreatDoor
set_option linter.unusedVariables false
open Go.RowKit
def commIv (l h l2 h2 : Int) : Bool :=
  if l = l2 ∨ l = h2 ∨ h = l2 ∨ h = h2 then false
  else decide (h < l2 ∨ h2 < l ∨ (l < l2 ∧ h2 < h) ∨ (l2 < l ∧ h < h2))
def minG (x o : Int) : Int := if o < x then o else x
def maxG (x o : Int) : Int := if x < o then o else x
def commB (x o x2 o2 : Int) : Bool := commIv (minG x o) (maxG x o) (minG x2 o2) (maxG x2 o2)
set_option maxHeartbeats 1000000 in
theorem commutes_any (vx vo : Value) (X O : List Int) (a : Nat) (w : World) (hX : Ints w vx X) (hO : Ints w vo O) (hl : X.length ≤ 1000) (ha : a + 1 < X.length) (hb : a + 1 < O.length) :
    Calls Tryz.prog 92 #[.agg #[vx, vo], .int .i64 a] w fun e w' => e = .returned (.bool (commB X[a] O[a] X[a+1] O[a+1])) ∧ Below w.heap.size w w' := by
  have ha' : a < X.length := by omega
  have hb' : a < O.length := by omega
  have hX0 := hX
  have hO0 := hO
  obtain ⟨A, c, rfl, hc, hh⟩ := hX
  obtain ⟨A', c', rfl, hc', hh'⟩ := hO
  clear hh hh'
  obtain ⟨b1, o1, rfl, hlt, c1⟩ := hX0.at_ ha'
  obtain ⟨b2, o2, rfl, hlt', c2⟩ := hO0.at_ hb'
  obtain ⟨b1', o1', e1, _, c3⟩ := hX0.at_ ha
  obtain ⟨b2', o2', e2, _, c4⟩ := hO0.at_ hb
  injection e1 with e1
  injection e1 with e1 e1'
  injection e2 with e2
  injection e2 with e2 e2'
  subst e1 e1' e2 e2'
  clear hX0 hO0
  generalize hR : commB X[a] O[a] X[a+1] O[a+1] = R
  unfold commB minG maxG at hR
  have HR := Lib.hid hR
  clear hR
  generalize X[a] = x at *
  generalize O[a] = o at *
  generalize X[a+1] = x2 at *
  generalize O[a+1] = o2' at *
  go_enter Tryz.func92, Tryz.ntmps92
  go_upto_region 3 with (go_quiet (fail))
  generalize (if o < x then o else x) = lo at *
  generalize (if x < o then o else x) = hi at *
  generalize (if o2' < x2 then o2' else x2) = lo2 at *
  generalize (if x2 < o2' then o2' else x2) = hi2 at *
  clear c1 c2 c3 c4
  by_cases t0 : lo = lo2
  · have d0 : (lo == lo2) = true := by simpa using t0
    have hfin := Lib.hid (show R = false by rw [← HR.out]; simp only [commIv]; rw [if_pos (by omega)])
    clear t0
    go_wp2
    go_ret
    exact ⟨by rw [hfin.out]; rfl, bdrewN ((Below.refl _ _).alloc (Nat.le_refl _) _) _⟩
  have d0 : (lo == lo2) = false := by simpa using t0
  by_cases t1 : lo = hi2
  · have d1 : (lo == hi2) = true := by simpa using t1
    have hfin := Lib.hid (show R = false by rw [← HR.out]; simp only [commIv]; rw [if_pos (by omega)])
    clear t1
    go_wp2
    go_ret
    exact ⟨by rw [hfin.out]; rfl, bdrewN ((Below.refl _ _).alloc (Nat.le_refl _) _) _⟩
  have d1 : (lo == hi2) = false := by simpa using t1
  by_cases t2 : hi = lo2
  · have d2 : (hi == lo2) = true := by simpa using t2
    have hfin := Lib.hid (show R = false by rw [← HR.out]; simp only [commIv]; rw [if_pos (by omega)])
    clear t2
    go_wp2
    go_ret
    exact ⟨by rw [hfin.out]; rfl, bdrewN ((Below.refl _ _).alloc (Nat.le_refl _) _) _⟩
  have d2 : (hi == lo2) = false := by simpa using t2
  by_cases t3 : hi = hi2
  · have d3 : (hi == hi2) = true := by simpa using t3
    have hfin := Lib.hid (show R = false by rw [← HR.out]; simp only [commIv]; rw [if_pos (by omega)])
    clear t3
    go_wp2
    go_ret
    exact ⟨by rw [hfin.out]; rfl, bdrewN ((Below.refl _ _).alloc (Nat.le_refl _) _) _⟩
  have d3 : (hi == hi2) = false := by simpa using t3
  by_cases t5 : hi < lo2
  · have hfin := Lib.hid (show R = true by rw [← HR.out]; simp only [commIv]; rw [if_neg (by omega)]; simp; omega)
    go_wp2
    go_ret
    exact ⟨by rw [hfin.out]; rfl, bdrewN ((Below.refl _ _).alloc (Nat.le_refl _) _) _⟩
  by_cases t6 : hi2 < lo
  · have hfin := Lib.hid (show R = true by rw [← HR.out]; simp only [commIv]; rw [if_neg (by omega)]; simp; omega)
    go_wp2
    go_ret
    exact ⟨by rw [hfin.out]; rfl, bdrewN ((Below.refl _ _).alloc (Nat.le_refl _) _) _⟩
  by_cases t7 : lo < lo2
  · by_cases t8 : hi2 < hi
    · have hfin := Lib.hid (show R = true by rw [← HR.out]; simp only [commIv]; rw [if_neg (by omega)]; simp; omega)
      go_wp2
      go_ret
      exact ⟨by rw [hfin.out]; rfl, bdrewN ((Below.refl _ _).alloc (Nat.le_refl _) _) _⟩
    · have hfin := Lib.hid (show R = false by rw [← HR.out]; simp only [commIv]; rw [if_neg (by omega)]; simp; omega)
      go_wp2
      go_ret
      exact ⟨by rw [hfin.out]; rfl, bdrewN ((Below.refl _ _).alloc (Nat.le_refl _) _) _⟩
  · have t10 : lo2 < lo := by omega
    by_cases t9 : hi < hi2
    · have hfin := Lib.hid (show R = true by rw [← HR.out]; simp only [commIv]; rw [if_neg (by omega)]; simp; omega)
      go_wp2
      go_ret
      exact ⟨by rw [hfin.out]; rfl, bdrewN ((Below.refl _ _).alloc (Nat.le_refl _) _) _⟩
    · have hfin := Lib.hid (show R = false by rw [← HR.out]; simp only [commIv]; rw [if_neg (by omega)]; simp; omega)
      go_wp2
      go_ret
      exact ⟨by rw [hfin.out]; rfl, bdrewN ((Below.refl _ _).alloc (Nat.le_refl _) _) _⟩
end Go.Proofs.YteliflcbegcdlaaGreatDoor

namespace Go.Proofs.YteliflcbegcdlaaGreatDoor
set_option linter.unusedVariables false
open Go.RowKit
def upd {α : Type} (x : Nat → α) (i : Nat) (v : α) : Nat → α := fun j => if j = i then v else x j
@[simp] theorem upd_same {α : Type} (x : Nat → α) (i : Nat) (v : α) : upd x i v i = v := by simp [upd]
theorem upd_ne {α : Type} (x : Nat → α) {i j : Nat} (v : α) (h : j ≠ i) : upd x i v j = x j := by simp [upd, h]
/-- what the operations of a region have put so far -/
def putAll : List (Option Tmp) → Nat → (Nat → Value) → Act → Act
  | [], _, _, a => a
  | d :: ds, i, x, a => putAll ds (i + 1) x (a.put d (x i))
def dstOf (ops : Array Oper) : List (Option Tmp) := ops.toList.map (·.dst)
/-- no temporary is written twice -/
def apartD : List (Option Tmp) → Bool
  | [] => true
  | d :: ds => (match d with | none => true | some t => !ds.contains (some t)) && apartD ds
theorem putAll_put : ∀ (ds : List (Option Tmp)) (i : Nat) (x : Nat → Value) (a : Act) (d : Option Tmp) (v : Value), (∀ t, d = some t → some t ∉ ds) → putAll ds i x (a.put d v) = (putAll ds i x a).put d v := by
  intro ds
  induction ds with
  | nil => intro i x a d v _; rfl
  | cons e ds ih =>
    intro i x a d v h
    rw [putAll, putAll, ← ih _ _ _ _ _ (fun t ht hm => h t ht (List.mem_cons_of_mem _ hm))]
    congr 1
    refine Act.put_comm a v (x i) (fun t ht he => ?_)
    exact h t ht (by rw [he]; exact List.mem_cons_self)
theorem putAll_congr : ∀ (ds : List (Option Tmp)) (i : Nat) (x y : Nat → Value) (a : Act), (∀ j, i ≤ j → j < i + ds.length → x j = y j) → putAll ds i x a = putAll ds i y a := by
  intro ds
  induction ds with
  | nil => intro i x y a _; rfl
  | cons e ds ih =>
    intro i x y a h
    rw [putAll, putAll, h i (Nat.le_refl _) (by simp), ih (i + 1) x y _ (fun j h1 h2 => h j (by omega) (by simp at h2 ⊢; omega))]
theorem put_put (a : Act) (d : Option Tmp) (u v : Value) : (a.put d u).put d v = a.put d v := by
  cases d <;> simp [Act.put]
theorem putAll_upd : ∀ (ds : List (Option Tmp)) (i : Nat) (x : Nat → Value) (a : Act) (k : Nat) (v : Value), apartD ds = true → k < ds.length → (putAll ds i x a).put (ds.getD k none) v = putAll ds i (upd x (i + k) v) a := by
  intro ds
  induction ds with
  | nil => intro i x a k v _ h; simp at h
  | cons e ds ih =>
    intro i x a k v hd hk
    simp only [apartD, Bool.and_eq_true] at hd
    rw [putAll, putAll]
    cases k with
    | zero =>
      simp only [Nat.add_zero, upd_same, List.getD_cons_zero]
      rw [← putAll_put]
      · rw [put_put]
        exact putAll_congr _ _ _ _ _ (fun j h1 h2 => (upd_ne x v (by omega)).symm)
      · intro t ht
        rw [ht] at hd
        have := hd.1
        simpa using this
    | succ k =>
      rw [List.getD_cons_succ, ih _ _ _ _ _ hd.2 (by simpa using hk), upd_ne x v (by omega)]
      congr 2
      omega
def slotV (a : Act) (d : Option Tmp) : Value := match d with | some t => a.tmps.getD t undef | none => undef
theorem put_get (a : Act) (d : Option Tmp) : a.put d (slotV a d) = a := by
  cases d with
  | none => rfl
  | some t =>
    simp only [Act.put, slotV]
    congr 1
    apply Array.ext
    · simp
    · intro j h1 h2
      simp only [Array.getElem_setIfInBounds h2]
      split
      · rename_i h; subst h; simp [h2]
      · rfl
theorem putAll_start : ∀ (ds : List (Option Tmp)) (i : Nat) (a : Act), apartD ds = true → putAll ds i (fun j => slotV a (ds.getD (j - i) none)) a = a := by
  intro ds
  induction ds with
  | nil => intro i a _; rfl
  | cons e ds ih =>
    intro i a hd
    simp only [apartD, Bool.and_eq_true] at hd
    rw [putAll]
    have h0 : slotV a ((e :: ds).getD (i - i) none) = slotV a e := by simp
    simp only [h0, put_get]
    refine Eq.trans (putAll_congr _ _ _ _ _ (fun j h1 h2 => ?_)) (ih (i + 1) a hd.2)
    rw [show j - i = (j - (i + 1)) + 1 from by omega, List.getD_cons_succ]
/-- each edge leads back -/
def backD (ops : Array Oper) : Bool := (List.range ops.size).all fun i => ((ops[i]?).map (·.after.all fun e => !Region.binds .any e || decide (e.on < i))).getD true
def deps (o : Oper) : List Nat := (o.after.toList.filter fun e => Region.binds .any e).map (·.on)
def depsAt (ops : Array Oper) (j : Nat) : List Nat := match ops[j]? with | some o => deps o | none => []
section
variable {P : Program} {ops : Array Oper} {Q : Exit → Act → World → Prop}
theorem ready_nil (hb : backD ops = true) {listed : Array Bool} (hs : listed.size = ops.size) (h : Region.ready .any ops listed = []) : ∀ i, i < ops.size → listed.getD i true = true := by
  intro i
  induction i using Nat.strongRecOn with
  | _ i ih =>
    intro hi
    cases hl : listed.getD i true with
    | true => rfl
    | false =>
      exfalso
      have : i ∈ Region.ready .any ops listed := by
        rw [mem_ready]
        refine ⟨hl, ops[i], by simp [hi], fun e he hbe => ?_⟩
        have hlt : e.on < i := by
          simp only [backD, List.all_eq_true, List.mem_range] at hb
          have := hb i hi
          simp only [hi, Array.getElem?_eq_getElem, Option.map_some, Option.getD_some, Array.all_eq_true_iff_forall_mem] at this
          have h2 := this e he
          rw [hbe] at h2
          simpa using h2
        have := ih e.on hlt (by omega)
        have hlt' : e.on < listed.size := by omega
        simpa [Array.getD, hlt'] using this
      rw [h] at this
      cases this
def countF (l : Array Bool) : Nat := l.toList.countP (· == false)
theorem countF_list : ∀ (m : List Bool) (i : Nat), m[i]? = some false → (m.set i true).countP (· == false) + 1 = m.countP (· == false) := by
  intro m
  induction m with
  | nil => intro i h; simp at h
  | cons b m ih =>
    intro i h
    cases i with
    | zero => simp at h; simp [h]
    | succ i =>
      have := ih i (by simpa using h)
      simp only [List.set_cons_succ, List.countP_cons]
      omega
theorem countF_set {l : Array Bool} {i : Nat} (h : l.getD i true = false) : countF (l.setIfInBounds i true) + 1 = countF l := by
  have hi : i < l.size := by
    rcases Nat.lt_or_ge i l.size with h' | h'
    · exact h'
    · simp [Array.getD, Nat.not_lt.2 h'] at h
  unfold countF
  rw [Array.toList_setIfInBounds]
  refine countF_list _ _ ?_
  simpa [Array.getD, hi] using h
theorem wpAny_inv (hb : backD ops = true) (I : Array Bool → Act → World → Prop)
    (hstep : ∀ l a w i, l.size = ops.size → I l a w → i ∈ Region.ready .any ops l → wpOp P ops Q i (I (l.setIfInBounds i true)) a w)
    (hend : ∀ l a w, l.size = ops.size → I l a w → (∀ i, i < ops.size → l.getD i true = true) → Q .normal a w) :
    ∀ (fuel : Nat) (l : Array Bool) (a : Act) (w : World), l.size = ops.size → countF l ≤ fuel → I l a w → wpAny P .any ops Q fuel l a w := by
  intro fuel
  induction fuel with
  | zero =>
    intro l a w hs hc h
    have hr : Region.ready .any ops l = [] := by
      cases hr : Region.ready .any ops l with
      | nil => rfl
      | cons i r =>
        have : i ∈ Region.ready .any ops l := by rw [hr]; exact List.mem_cons_self
        have := countF_set (mem_ready.1 this).1
        omega
    exact ⟨hr, hend l a w hs h (ready_nil hb hs hr)⟩
  | succ fuel ih =>
    intro l a w hs hc h
    refine ⟨fun hr => hend l a w hs h (ready_nil hb hs hr), fun i hi => ?_⟩
    refine wpOp_mono (fun a' w' h' => ih _ a' w' (by simpa using hs) ?_ h') (hstep l a w i hs h hi)
    have := countF_set (mem_ready.1 hi).1
    omega
/-- The region by facts. 'x i' is the value of operation i, 'D i' says that it has come up. -/
theorem wp_region_facts {id : Nat} {a : Act} {w : World} (hm : P.follows .mixedOrders = true) (hd : apartD (dstOf ops) = true) (hb : backD ops = true)
    (I : (Nat → Bool) → (Nat → Value) → World → Prop)
    (h0 : ∀ x, I (fun _ => false) x w.drew)
    (hstep : ∀ i o, ops[i]? = some o → ∀ D x w, I D x w → D i = false → (∀ j ∈ deps o, D j = true) → (∀ j, D j = true → ∀ k ∈ depsAt ops j, D k = true) → wpOp P ops Q i (fun a' w' => ∃ v, a' = (putAll (dstOf ops) 0 x a).put o.dst v ∧ I (upd D i true) (upd x i v) w') (putAll (dstOf ops) 0 x a) w)
    (hend : ∀ D x w, I D x w → (∀ i, i < ops.size → D i = true) → Q .normal (putAll (dstOf ops) 0 x a) w) : (Code.region id ops true).wp P Q a w := by
  refine wp_region_any hm (wpAny_inv hb (fun l a' w' => ∃ x, a' = putAll (dstOf ops) 0 x a ∧ (∀ j, l.getD j false = true → ∀ k ∈ depsAt ops j, l.getD k false = true) ∧ I (fun j => l.getD j false) x w') ?_ ?_ _ _ _ _ (by simp) ?_ ?_)
  · rintro l a' w' i hs ⟨x, rfl, hcl, hI⟩ hi
    obtain ⟨hun, o, ho, hdep⟩ := mem_ready.1 hi
    have hlt : i < ops.size := (Array.getElem?_eq_some_iff.1 ho).1
    have hdi : (dstOf ops).getD i none = o.dst := by
      have : ops[i] = o := by simpa [hlt] using ho
      simp [dstOf, hlt, this]
    have hdp : ∀ j ∈ deps o, l.getD j false = true := by
      intro j hj
      simp only [deps, List.mem_map, List.mem_filter] at hj
      obtain ⟨e, ⟨he, hbe⟩, rfl⟩ := hj
      exact hdep e (by simpa using he) hbe
    refine wpOp_mono ?_ (hstep i o ho (fun j => l.getD j false) x w' hI (by have h' : i < l.size := by omega
                                                                            simpa [Array.getD, h'] using hun) hdp hcl)
    · rintro a'' w'' ⟨v, rfl, hI'⟩
      refine ⟨upd x i v, ?_, ?_, ?_⟩
      · rw [← hdi, putAll_upd _ _ _ _ _ _ hd (by simpa [dstOf] using hlt), Nat.zero_add]
      · intro j hj k hk
        by_cases e : k = i
        · subst e
          have h' : k < l.size := by omega
          simp [Array.getD, h']
        rw [getD_set_ne _ (Ne.symm e)]
        by_cases ej : j = i
        · subst ej
          simp only [depsAt, ho] at hk
          exact hdp k hk
        · rw [getD_set_ne _ (Ne.symm ej)] at hj
          exact hcl j hj k hk
      · have : (fun j => (l.setIfInBounds i true).getD j false) = upd (fun j => l.getD j false) i true := by
          funext j
          by_cases e : j = i
          · subst e
            have h' : j < l.size := by omega
            simp [upd, Array.getD, h']
          · rw [upd_ne _ _ e, getD_set_ne _ (Ne.symm e)]
        rw [this]
        exact hI'
  · rintro l a' w' hs ⟨x, rfl, _, hI⟩ hall
    refine hend _ x w' hI (fun i hi => ?_)
    have := hall i hi
    cases hl : l.getD i false with
    | true => rfl
    | false => 
      rcases Nat.lt_or_ge i l.size with h' | h'
      · simp [Array.getD, h'] at this hl; rw [this] at hl; cases hl
      · omega
  · exact Nat.le_trans List.countP_le_length (by simp)
  · refine ⟨_, (putAll_start _ 0 a hd).symm, fun j hj => ?_, ?_⟩
    · by_cases h : j < ops.size <;> simp [Array.getD, h] at hj
    have : (fun j => (Array.replicate ops.size false).getD j false) = fun _ => false := by
      funext j
      by_cases h : j < ops.size <;> simp [Array.getD, h]
    rw [this]
    exact h0 _
def AllOps (Φ : Nat → Oper → Prop) : Nat → List Oper → Prop
  | _, [] => True
  | i, o :: os => Φ i o ∧ AllOps Φ (i + 1) os
theorem AllOps.get {Φ : Nat → Oper → Prop} : ∀ (l : List Oper) (i : Nat), AllOps Φ i l → ∀ k o, l[k]? = some o → Φ (i + k) o := by
  intro l
  induction l with
  | nil => intro i _ k o h; simp at h
  | cons q l ih =>
    intro i h k o ho
    cases k with
    | zero => simp at ho; subst ho; exact h.1
    | succ k => have := ih (i + 1) h.2 k o (by simpa using ho); rw [show i + (k + 1) = i + 1 + k from by omega]; exact this
theorem wpOp_plain {i : Nat} {o : Oper} {a : Act} {w : World} {K : Act → World → Prop} (h : ops[i]? = some o) (hg : o.guard = none) (hw : o.wp P a w K Q) : wpOp P ops Q i K a w := by
  unfold wpOp
  simp only [h, Region.wanted, hg, if_true]
  exact .inl hw
def NoQ : Exit → Act → World → Prop := fun _ _ _ => False
theorem wp_noQ {o : Oper} {a : Act} {w : World} {K : Act → World → Prop} (h : o.wp P a w K NoQ) : o.wp P a w K Q := by
  unfold Oper.wp at *
  generalize (execOp a.eval o).run P w = r at *
  cases r with
  | ok n w' =>
    cases n <;> simp only [Oper.upon] at h ⊢ <;>
      first
        | exact h
        | exact Calls.mono h (fun e w'' he => by cases e <;> first | exact he | exact he.elim | (obtain ⟨_, _, hf⟩ := he; exact hf.elim))
  | halt x w' => cases x <;> simp only [Oper.upon] at h ⊢ <;> first | exact h | exact h.elim
/-- what slot t holds -/
def look (ds : List (Option Tmp)) (x : Nat → Value) (a : Act) (t : Tmp) : Value :=
  match ds.idxOf? (some t) with
  | some i => x i
  | none => a.tmps.getD t undef
theorem getD_put (a : Act) (d t : Tmp) (v : Value) (hd : d < a.tmps.size) : (a.put (some d) v).tmps.getD t undef = if d = t then v else a.tmps.getD t undef := by
  simp only [Act.put, Array.getD_eq_getD_getElem?, Array.getElem?_setIfInBounds]
  by_cases h : d = t
  · subst h; simp [hd]
  · simp [h]
theorem size_put (a : Act) (d : Option Tmp) (v : Value) : (a.put d v).tmps.size = a.tmps.size := by cases d <;> simp [Act.put]
def inD (n : Nat) (ds : List (Option Tmp)) : Bool := ds.all fun d => match d with | some t => decide (t < n) | none => true
theorem putAll_look : ∀ (ds : List (Option Tmp)) (i : Nat) (x : Nat → Value) (a : Act) (t : Tmp), apartD ds = true → inD a.tmps.size ds = true →
    (putAll ds i x a).tmps.getD t undef = match ds.idxOf? (some t) with | some k => x (i + k) | none => a.tmps.getD t undef := by
  intro ds
  induction ds with
  | nil => intro i x a t _ _; rfl
  | cons e ds ih =>
    intro i x a t hd hn
    simp only [apartD, Bool.and_eq_true] at hd
    simp only [inD, List.all_cons, Bool.and_eq_true] at hn
    rw [putAll, ih _ _ _ _ hd.2 (by rw [size_put]; exact hn.2), List.idxOf?_cons]
    by_cases he : e = some t
    · subst he
      have hnm : ds.idxOf? (some t) = none := by
        rw [List.idxOf?_eq_none_iff]
        have := hd.1
        simpa using this
      simp only [hnm, beq_self_eq_true, if_true, Nat.add_zero]
      rw [getD_put _ _ _ _ (by simpa using hn.1), if_pos rfl]
    · have hb : (e == some t) = false := by simpa using he
      rw [hb]
      simp only [Bool.false_eq_true, if_false]
      cases hk : ds.idxOf? (some t) with
      | some k => simp only [Option.map_some]; congr 1; omega
      | none =>
        simp only [Option.map_none]
        cases e with
        | none => rfl
        | some d =>
          rw [getD_put _ _ _ _ (by simpa using hn.1), if_neg (fun h => he (by rw [h]))]
/-- behind one operation -/
def StepPost (I : (Nat → Bool) → (Nat → Value) → World → Prop) (D : Nat → Bool) (x : Nat → Value) (i : Nat) (b : Act) (d : Option Tmp) (a' : Act) (w' : World) : Prop := ∃ v, a' = b.put d v ∧ I (upd D i true) (upd x i v) w'
theorem StepPost.mk' {I : (Nat → Bool) → (Nat → Value) → World → Prop} {D : Nat → Bool} {x : Nat → Value} {i : Nat} {b : Act} {d : Option Tmp} {w' : World} {v : Value} (h : I (upd D i true) (upd x i v) w') : StepPost I D x i b d (b.put d v) w' := ⟨v, rfl, h⟩
/-- the region by facts, no operation guarded -/
theorem wp_region_factsU {id : Nat} {l : List Oper} {a : Act} {w : World} (hm : P.follows .mixedOrders = true) (hd : apartD (dstOf l.toArray) = true) (hb : backD l.toArray = true) (hg : l.all (fun o => o.guard.isNone) = true) (hn : inD a.tmps.size (dstOf l.toArray) = true)
    (I : (Nat → Bool) → (Nat → Value) → World → Prop)
    (h0 : ∀ x, I (fun _ => false) x w.drew)
    (hstep : AllOps (fun i o => ∀ D x w (b : Act), I D x w → D i = false → (∀ j ∈ deps o, D j = true) → (∀ j, D j = true → ∀ k ∈ depsAt l.toArray j, D k = true) → (∀ t : Nat, b.tmps[t]?.getD undef = look (dstOf l.toArray) x a t) → o.wp P b w (StepPost I D x i b o.dst) NoQ) 0 l)
    (hend : ∀ D x w, I D x w → (∀ i, i < l.length → D i = true) → Q .normal (putAll (dstOf l.toArray) 0 x a) w) : (Code.region id l.toArray true).wp P Q a w := by
  refine wp_region_facts hm hd hb I h0 (fun i o ho D x w hI hD hdep hcl => ?_) (fun D x w hI h => hend D x w hI (by simpa using h))
  have ho' : l[i]? = some o := by simpa using ho
  refine wpOp_plain ho ?_ ?_
  · have := List.all_eq_true.1 hg o (List.mem_of_getElem? ho')
    simpa using this
  · have := hstep.get _ _ i o ho' D x w (putAll (dstOf l.toArray) 0 x a)
    rw [Nat.zero_add] at this
    refine wp_noQ (this hI hD hdep hcl (fun t => ?_))
    rw [← Array.getD_eq_getD_getElem?, putAll_look _ _ _ _ _ hd hn]
    unfold look
    simp only [Nat.zero_add]
theorem wp_of_run {I : (Nat → Bool) → (Nat → Value) → World → Prop} {D : Nat → Bool} {x : Nat → Value} {i : Nat} {o : Oper} {b : Act} {w w' : World} (v : Value) (h : (execOp b.eval o).run P w = .ok (.value v) w') (hK : I (upd D i true) (upd x i v) w') : o.wp P b w (StepPost I D x i b o.dst) NoQ := by
  unfold Oper.wp; rw [h]; exact StepPost.mk' hK
theorem wp_of_skip {I : (Nat → Bool) → (Nat → Value) → World → Prop} {D : Nat → Bool} {x : Nat → Value} {i : Nat} {o : Oper} {b : Act} {w w' : World} (h : (execOp b.eval o).run P w = .ok .skip w') (hK : I (upd D i true) (upd x i undef) w') : o.wp P b w (StepPost I D x i b o.dst) NoQ := by
  unfold Oper.wp; rw [h]; exact StepPost.mk' hK
end
end Go.Proofs.YteliflcbegcdlaaGreatDoor

namespace Go.Proofs.YteliflcbegcdlaaGreatDoor
open Go.RowKit
set_option linter.unusedVariables false
section
variable {P : Program} {ops : Array Oper} {Q : Exit → Act → World → Prop}
/-- The region by facts. 'x i' is the value of operation i, 'D i' says that it has come up. -/
theorem wp_region_facts2 {id : Nat} {a : Act} {w : World} (hm : P.follows .mixedOrders = true) (hd : apartD (dstOf ops) = true) (hb : backD ops = true)
    (I : (Nat → Bool) → (Nat → Value) → World → Prop)
    (h0 : I (fun _ => false) (fun j => slotV a ((dstOf ops).getD (j - 0) none)) w.drew)
    (hstep : ∀ i o, ops[i]? = some o → ∀ D x w, I D x w → D i = false → (∀ j ∈ deps o, D j = true) → (∀ j, D j = true → ∀ k ∈ depsAt ops j, D k = true) → wpOp P ops Q i (fun a' w' => ∃ v, a' = (putAll (dstOf ops) 0 x a).put o.dst v ∧ I (upd D i true) (upd x i v) w') (putAll (dstOf ops) 0 x a) w)
    (hend : ∀ D x w, I D x w → (∀ i, i < ops.size → D i = true) → Q .normal (putAll (dstOf ops) 0 x a) w) : (Code.region id ops true).wp P Q a w := by
  refine wp_region_any hm (wpAny_inv hb (fun l a' w' => ∃ x, a' = putAll (dstOf ops) 0 x a ∧ (∀ j, l.getD j false = true → ∀ k ∈ depsAt ops j, l.getD k false = true) ∧ I (fun j => l.getD j false) x w') ?_ ?_ _ _ _ _ (by simp) ?_ ?_)
  · rintro l a' w' i hs ⟨x, rfl, hcl, hI⟩ hi
    obtain ⟨hun, o, ho, hdep⟩ := mem_ready.1 hi
    have hlt : i < ops.size := (Array.getElem?_eq_some_iff.1 ho).1
    have hdi : (dstOf ops).getD i none = o.dst := by
      have : ops[i] = o := by simpa [hlt] using ho
      simp [dstOf, hlt, this]
    have hdp : ∀ j ∈ deps o, l.getD j false = true := by
      intro j hj
      simp only [deps, List.mem_map, List.mem_filter] at hj
      obtain ⟨e, ⟨he, hbe⟩, rfl⟩ := hj
      exact hdep e (by simpa using he) hbe
    refine wpOp_mono ?_ (hstep i o ho (fun j => l.getD j false) x w' hI (by have h' : i < l.size := by omega
                                                                            simpa [Array.getD, h'] using hun) hdp hcl)
    · rintro a'' w'' ⟨v, rfl, hI'⟩
      refine ⟨upd x i v, ?_, ?_, ?_⟩
      · rw [← hdi, putAll_upd _ _ _ _ _ _ hd (by simpa [dstOf] using hlt), Nat.zero_add]
      · intro j hj k hk
        by_cases e : k = i
        · subst e
          have h' : k < l.size := by omega
          simp [Array.getD, h']
        rw [getD_set_ne _ (Ne.symm e)]
        by_cases ej : j = i
        · subst ej
          simp only [depsAt, ho] at hk
          exact hdp k hk
        · rw [getD_set_ne _ (Ne.symm ej)] at hj
          exact hcl j hj k hk
      · have : (fun j => (l.setIfInBounds i true).getD j false) = upd (fun j => l.getD j false) i true := by
          funext j
          by_cases e : j = i
          · subst e
            have h' : j < l.size := by omega
            simp [upd, Array.getD, h']
          · rw [upd_ne _ _ e, getD_set_ne _ (Ne.symm e)]
        rw [this]
        exact hI'
  · rintro l a' w' hs ⟨x, rfl, _, hI⟩ hall
    refine hend _ x w' hI (fun i hi => ?_)
    have := hall i hi
    cases hl : l.getD i false with
    | true => rfl
    | false => 
      rcases Nat.lt_or_ge i l.size with h' | h'
      · simp [Array.getD, h'] at this hl; rw [this] at hl; cases hl
      · omega
  · exact Nat.le_trans List.countP_le_length (by simp)
  · refine ⟨_, (putAll_start _ 0 a hd).symm, fun j hj => ?_, ?_⟩
    · by_cases h : j < ops.size <;> simp [Array.getD, h] at hj
    have : (fun j => (Array.replicate ops.size false).getD j false) = fun _ => false := by
      funext j
      by_cases h : j < ops.size <;> simp [Array.getD, h]
    rw [this]
    exact h0
/-- the region by facts, no operation guarded -/
theorem wp_region_facts2U {id : Nat} {l : List Oper} {a : Act} {w : World} (hm : P.follows .mixedOrders = true) (hd : apartD (dstOf l.toArray) = true) (hb : backD l.toArray = true) (hg : l.all (fun o => o.guard.isNone) = true) (hn : inD a.tmps.size (dstOf l.toArray) = true)
    (I : (Nat → Bool) → (Nat → Value) → World → Prop)
    (h0 : I (fun _ => false) (fun j => slotV a ((dstOf l.toArray).getD (j - 0) none)) w.drew)
    (hstep : AllOps (fun i o => ∀ D x w (b : Act), I D x w → D i = false → (∀ j ∈ deps o, D j = true) → (∀ j, D j = true → ∀ k ∈ depsAt l.toArray j, D k = true) → (∀ t : Nat, b.tmps[t]?.getD undef = look (dstOf l.toArray) x a t) → o.wp P b w (StepPost I D x i b o.dst) NoQ) 0 l)
    (hend : ∀ D x w, I D x w → (∀ i, i < l.length → D i = true) → Q .normal (putAll (dstOf l.toArray) 0 x a) w) : (Code.region id l.toArray true).wp P Q a w := by
  refine wp_region_facts2 hm hd hb I h0 (fun i o ho D x w hI hD hdep hcl => ?_) (fun D x w hI h => hend D x w hI (by simpa using h))
  have ho' : l[i]? = some o := by simpa using ho
  refine wpOp_plain ho ?_ ?_
  · have := List.all_eq_true.1 hg o (List.mem_of_getElem? ho')
    simpa using this
  · have := hstep.get _ _ i o ho' D x w (putAll (dstOf l.toArray) 0 x a)
    rw [Nat.zero_add] at this
    refine wp_noQ (this hI hD hdep hcl (fun t => ?_))
    rw [← Array.getD_eq_getD_getElem?, putAll_look _ _ _ _ _ hd hn]
    unfold look
    simp only [Nat.zero_add]
end
section
variable {P : Program} {Q : Exit → Act → World → Prop}
variable {w : World} {Φ : Nat → Value → World → Prop} {i : Nat} {b : Act} {o : Oper}
/-- the facts of a table: a value for each operation, but for those with a property of their own -/
def phiT (ev : Nat → Option Value) (Ψ : Nat → Value → World → Prop) (i : Nat) (v : Value) (w : World) : Prop := match ev i with | some u => v = u | none => Ψ i v w
end
end Go.Proofs.YteliflcbegcdlaaGreatDoor

namespace Go.Proofs.YteliflcbegcdlaaGreatDoor
open Go.RowKit
set_option linter.unusedVariables false
section
variable {P : Program} {ops : Array Oper} {Q : Exit → Act → World → Prop}
/-- the guard of an operation is met -/
def gOk (ops : Array Oper) (o : Oper) (b : Act) : Prop := match o.guard with
  | none => True
  | some (j, want) => ∃ d : Nat, (ops[j]?.bind (·.dst)) = some d ∧ b.tmps[d]?.getD undef = .bool want
theorem gOk.wanted {o : Oper} {b : Act} (h : gOk ops o b) : Region.wanted o (yielded ops b.tmps) = true := by
  unfold gOk at h
  unfold Region.wanted
  cases hg : o.guard with
  | none => rfl
  | some p =>
    obtain ⟨j, want⟩ := p
    rw [hg] at h
    obtain ⟨d, hd, hv⟩ := h
    have hv2 : b.tmps[d]? = some (.bool want) := by
      cases ht : b.tmps[d]? with
      | none => rw [ht] at hv; simp [undef] at hv
      | some u => rw [ht] at hv; simp at hv; rw [hv]
    show (yielded ops b.tmps j == some want) = true
    unfold yielded
    rw [hd, Option.bind_some, hv2]
    simp
theorem wpOp_met {i : Nat} {o : Oper} {a : Act} {w : World} {K : Act → World → Prop} (h : ops[i]? = some o) (hg : Region.wanted o (yielded ops a.tmps) = true) (hw : o.wp P a w K Q) : wpOp P ops Q i K a w := by
  unfold wpOp
  simp only [h, hg, if_true]
  exact .inl hw
end
section
variable {P : Program} {Q : Exit → Act → World → Prop}
end
end Go.Proofs.YteliflcbegcdlaaGreatDoor

namespace Go.Proofs.YteliflcbegcdlaaGreatDoor
open Go.RowKit
set_option linter.unusedVariables false
section
variable {P : Program} {Q : Exit → Act → World → Prop}
variable {w : World} {ev : Nat → Value} {S : World → World} {n i m : Nat} {b : Act} {o : Oper}
end
end Go.Proofs.YteliflcbegcdlaaGreatDoor

namespace Go.Proofs.YteliflcbegcdlaaGreatDoor
open Go.RowKit
set_option linter.unusedVariables false
section
variable {P : Program} {ops : Array Oper} {Q : Exit → Act → World → Prop}
/-- the guard of an operation is not met (it is the other truth value, or it was not asked itself) -/
def gNo (ops : Array Oper) (o : Oper) (b : Act) : Prop := match o.guard with
  | none => False
  | some (j, want) => ∃ d : Nat, (ops[j]?.bind (·.dst)) = some d ∧ (b.tmps[d]?.getD undef = .bool (!want) ∨ b.tmps[d]?.getD undef = undef)
theorem gNo.wanted {o : Oper} {b : Act} (h : gNo ops o b) : Region.wanted o (yielded ops b.tmps) = false := by
  unfold gNo at h
  unfold Region.wanted
  cases hg : o.guard with
  | none => rw [hg] at h; exact absurd h id
  | some p =>
    obtain ⟨j, want⟩ := p
    rw [hg] at h
    obtain ⟨d, hd, hv⟩ := h
    show (yielded ops b.tmps j == some want) = false
    unfold yielded
    rw [hd, Option.bind_some]
    rcases hv with hv | hv
    · cases ht : b.tmps[d]? with
      | none => simp
      | some u =>
        rw [ht] at hv
        simp only [Option.getD_some] at hv
        rw [hv]
        cases want <;> simp
    · cases ht : b.tmps[d]? with
      | none => simp
      | some u =>
        rw [ht] at hv
        simp only [Option.getD_some] at hv
        rw [hv]
        simp [undef]
theorem wpOp_skip {i : Nat} {o : Oper} {a : Act} {w : World} {K : Act → World → Prop} (h : ops[i]? = some o) (hg : Region.wanted o (yielded ops a.tmps) = false) (hw : K (a.put o.dst undef) w) : wpOp P ops Q i K a w := by
  unfold wpOp
  simp only [h, hg]
  exact hw
/-- the region by facts, guards met or not -/
theorem wp_region_facts2X {id : Nat} {l : List Oper} {a : Act} {w : World} (hm : P.follows .mixedOrders = true) (hd : apartD (dstOf l.toArray) = true) (hb : backD l.toArray = true) (hn : inD a.tmps.size (dstOf l.toArray) = true)
    (I : (Nat → Bool) → (Nat → Value) → World → Prop)
    (h0 : I (fun _ => false) (fun j => slotV a ((dstOf l.toArray).getD (j - 0) none)) w.drew)
    (hstep : AllOps (fun i o => ∀ D x w (b : Act), I D x w → D i = false → (∀ j ∈ deps o, D j = true) → (∀ j, D j = true → ∀ k ∈ depsAt l.toArray j, D k = true) → (∀ t : Nat, b.tmps[t]?.getD undef = look (dstOf l.toArray) x a t) → (gOk l.toArray o b ∧ o.wp P b w (StepPost I D x i b o.dst) NoQ) ∨ (gNo l.toArray o b ∧ I (upd D i true) (upd x i undef) w)) 0 l)
    (hend : ∀ D x w, I D x w → (∀ i, i < l.length → D i = true) → Q .normal (putAll (dstOf l.toArray) 0 x a) w) : (Code.region id l.toArray true).wp P Q a w := by
  refine wp_region_facts2 hm hd hb I h0 (fun i o ho D x w hI hD hdep hcl => ?_) (fun D x w hI h => hend D x w hI (by simpa using h))
  have ho' : l[i]? = some o := by simpa using ho
  have := hstep.get _ _ i o ho' D x w (putAll (dstOf l.toArray) 0 x a)
  rw [Nat.zero_add] at this
  have h2 := this hI hD hdep hcl (fun t => by
    rw [← Array.getD_eq_getD_getElem?, putAll_look _ _ _ _ _ hd hn]
    unfold look
    simp only [Nat.zero_add])
  rcases h2 with ⟨h2, h3⟩ | ⟨h2, h3⟩
  · exact wpOp_met ho h2.wanted (wp_noQ h3)
  · exact wpOp_skip ho h2.wanted ⟨undef, rfl, h3⟩
end
section
variable {P : Program} {Q : Exit → Act → World → Prop}
/-- behind one operation -/
def PhxPost (T : World → World → Prop) (w : World) (Φ : Nat → Value → World → Prop) (i : Nat) (b : Act) (d : Option Tmp) (a' : Act) (w' : World) : Prop := ∃ v, a' = b.put d v ∧ T w w' ∧ Φ i v w'
/-- the same without a store at the end -/
theorem wp_region_phy {id : Nat} {l : List Oper} {a : Act} {w0 : World} (T : World → World → Prop) (Tr : ∀ {a b c}, T a b → T b c → T a c) (T0 : T w0 w0.drew) (hm : P.follows .mixedOrders = true) (hd : apartD (dstOf l.toArray) = true) (hb : backD l.toArray = true) (hn : inD a.tmps.size (dstOf l.toArray) = true)
    (Φ : Nat → Value → World → Prop) (hΦ : ∀ i v w w', Φ i v w → T w w' → Φ i v w')
    (hstep : AllOps (fun i o => ∀ (x : Nat → Value) w (b : Act), T w0 w → (∀ j ∈ deps o, Φ j (x j) w) → (∀ j, i ∈ depsAt l.toArray j → x j = slotV a ((dstOf l.toArray).getD (j - 0) none)) → (∀ t : Nat, b.tmps[t]?.getD undef = look (dstOf l.toArray) x a t) →
      (gOk l.toArray o b ∧ o.wp P b w (PhxPost T w Φ i b o.dst) NoQ) ∨ (gNo l.toArray o b ∧ Φ i undef w)) 0 l)
    (hend : ∀ (x : Nat → Value) w, T w0 w → (∀ i, i < l.length → Φ i (x i) w) → Q .normal (putAll (dstOf l.toArray) 0 x a) w) : (Code.region id l.toArray true).wp P Q a w0 := by
  refine wp_region_facts2X hm hd hb hn (fun D x w => T w0 w ∧ (∀ i, D i = true → Φ i (x i) w) ∧ ∀ i, D i = false → x i = (fun j => slotV a ((dstOf l.toArray).getD (j - 0) none)) i) ⟨T0, fun i h => Bool.noConfusion h, fun _ _ => rfl⟩ ?_ ?_
  · have key : ∀ k o, l[k]? = some o → ∀ D x W (b : Act), (T w0 W ∧ (∀ i, D i = true → Φ i (x i) W) ∧ ∀ i, D i = false → x i = (fun j => slotV a ((dstOf l.toArray).getD (j - 0) none)) i) → D k = false → (∀ j ∈ deps o, D j = true) → (∀ j, D j = true → ∀ q ∈ depsAt l.toArray j, D q = true) → (∀ t : Nat, b.tmps[t]?.getD undef = look (dstOf l.toArray) x a t) → (gOk l.toArray o b ∧ o.wp P b W (StepPost (fun D x w => T w0 w ∧ (∀ i, D i = true → Φ i (x i) w) ∧ ∀ i, D i = false → x i = (fun j => slotV a ((dstOf l.toArray).getD (j - 0) none)) i) D x k b o.dst) NoQ) ∨ (gNo l.toArray o b ∧ (T w0 W ∧ (∀ i, upd D k true i = true → Φ i (upd x k undef i) W) ∧ ∀ i, upd D k true i = false → upd x k undef i = (fun j => slotV a ((dstOf l.toArray).getD (j - 0) none)) i)) := by
      intro k o ho D x W b hI hD hdep hcl hbt
      have hs := hstep.get _ _ k o ho x W b hI.1 (fun j hj => hI.2.1 j (hdep j hj)) (fun j hj => hI.2.2 j (by
        cases h : D j with
        | false => rfl
        | true =>
          rw [Nat.zero_add] at hj
          have := hcl j h k hj
          rw [hD] at this; cases this)) hbt
      rw [Nat.zero_add] at hs
      rcases hs with ⟨g1, g2⟩ | ⟨g1, g2⟩
      · refine .inl ⟨g1, Oper.wp_mono ?_ g2⟩
        rintro a' w' ⟨v, rfl, hb', hv⟩
        refine ⟨v, rfl, Tr hI.1 hb', fun i hi => ?_, fun i hi => ?_⟩
        · by_cases e : i = k
          · subst e; rw [upd_same]; exact hv
          · rw [upd_ne _ _ e] at hi ⊢
            exact hΦ i (x i) W w' (hI.2.1 i hi) hb'
        · by_cases e : i = k
          · subst e; rw [upd_same] at hi; cases hi
          · rw [upd_ne _ _ e] at hi ⊢
            exact hI.2.2 i hi
      · refine .inr ⟨g1, hI.1, fun i hi => ?_, fun i hi => ?_⟩
        · by_cases e : i = k
          · subst e; rw [upd_same]; exact g2
          · rw [upd_ne _ _ e] at hi ⊢
            exact hI.2.1 i hi
        · by_cases e : i = k
          · subst e; rw [upd_same] at hi; cases hi
          · rw [upd_ne _ _ e] at hi ⊢
            exact hI.2.2 i hi
    have aux : ∀ (r : List Oper) (s : Nat), (∀ k, r[k]? = l[s + k]?) → AllOps (fun k o => ∀ D x W (b : Act), (T w0 W ∧ (∀ i, D i = true → Φ i (x i) W) ∧ ∀ i, D i = false → x i = (fun j => slotV a ((dstOf l.toArray).getD (j - 0) none)) i) → D k = false → (∀ j ∈ deps o, D j = true) → (∀ j, D j = true → ∀ q ∈ depsAt l.toArray j, D q = true) → (∀ t : Nat, b.tmps[t]?.getD undef = look (dstOf l.toArray) x a t) → (gOk l.toArray o b ∧ o.wp P b W (StepPost (fun D x w => T w0 w ∧ (∀ i, D i = true → Φ i (x i) w) ∧ ∀ i, D i = false → x i = (fun j => slotV a ((dstOf l.toArray).getD (j - 0) none)) i) D x k b o.dst) NoQ) ∨ (gNo l.toArray o b ∧ (T w0 W ∧ (∀ i, upd D k true i = true → Φ i (upd x k undef i) W) ∧ ∀ i, upd D k true i = false → upd x k undef i = (fun j => slotV a ((dstOf l.toArray).getD (j - 0) none)) i))) s r := by
      intro r
      induction r with
      | nil => intro s _; trivial
      | cons o r ih =>
        intro s hr
        refine ⟨key s o (by have := hr 0; simpa using this.symm), ih (s + 1) (fun k => ?_)⟩
        have := hr (k + 1)
        rw [List.getElem?_cons_succ] at this
        rw [this]; congr 1; omega
    exact aux l 0 (fun k => by rw [Nat.zero_add])
  · intro D x W hI hall
    exact hend x W hI.1 (fun i hi => hI.2.1 i (hall i hi))
variable {w : World} {T : World → World → Prop} {Φ : Nat → Value → World → Prop} {i : Nat} {b : Act} {o : Oper}
theorem phx_run (v : Value) (h : (execOp b.eval o).run P w = .ok (.value v) w) (hT : T w w) (hv : Φ i v w) : o.wp P b w (PhxPost T w Φ i b o.dst) NoQ := by
  unfold Oper.wp; rw [h]; exact ⟨v, rfl, hT, hv⟩
theorem phx_call {f : FuncId} {args : Array Value} (h : (execOp b.eval o).run P w = .ok (.enter f args) w) (hc : Calls P f args w fun e w' => ∃ v, e = .returned v ∧ T w w' ∧ Φ i v w') : o.wp P b w (PhxPost T w Φ i b o.dst) NoQ := by
  unfold Oper.wp; rw [h]
  simp only [Oper.upon]
  refine hc.mono ?_
  rintro e w' ⟨v, rfl, hb, hv⟩
  exact ⟨v, rfl, hb, hv⟩
end
end Go.Proofs.YteliflcbegcdlaaGreatDoor

namespace Go.Proofs.YteliflcbegcdlaaGreatDoor
open Go.RowKit
set_option linter.unusedVariables false
end Go.Proofs.YteliflcbegcdlaaGreatDoor

namespace Go.Proofs.YteliflcbegcdlaaGreatDoor
open Go.RowKit
set_option linter.unusedVariables false
section
variable {α : Type}
/-- v is a slice of the call's own, from block base on, that holds xs -/
def OwnA (e : TypeId) (sz : Nat) (enc : α → List Value) (base : Nat) (w : World) (v : Value) (xs : List α) : Prop := w.ownsRow base e sz v xs.length (xs.flatMap enc)
/-- u is a slice that reads as ys -/
def SlA (enc : α → List Value) (w : World) (u : Value) (ys : List α) : Prop :=
  ∃ A c, u = .slice A ys.length c ∧ ys.length ≤ c ∧ ∀ j q, (ys.flatMap enc)[j]? = some q → ∃ b o, A = some ⟨b, o, none⟩ ∧ w.cell? ⟨b, o + j, none⟩ = some q
/-- the same, whatever the capacity -/
def SlA0 (enc : α → List Value) (w : World) (u : Value) (ys : List α) : Prop :=
  ∃ A c, u = .slice A ys.length c ∧ ∀ j q, (ys.flatMap enc)[j]? = some q → ∃ b o, A = some ⟨b, o, none⟩ ∧ w.cell? ⟨b, o + j, none⟩ = some q
variable {e : TypeId} {sz : Nat} {enc : α → List Value} {base : Nat} {w w' : World} {v u : Value} {xs ys : List α}
theorem SlA.weak (h : SlA enc w u ys) : SlA0 enc w u ys := by
  obtain ⟨A, c, e, _, hx⟩ := h
  exact ⟨A, c, e, hx⟩
theorem OwnA.form (h : OwnA e sz enc base w v xs) : ∃ A c, v = .slice A xs.length c := by
  rcases h.2 with ⟨rfl, h0⟩ | ⟨g, cap, cur, rfl, _⟩
  · exact ⟨none, 0, by rw [h0]⟩
  · exact ⟨_, _, rfl⟩
theorem OwnA.lt (h : OwnA e sz enc base w v xs) : ∀ k, v.ownBlock = some k → k < w.heap.size := by
  intro k hk
  rcases h.2 with ⟨rfl, h0⟩ | ⟨b, cap, cur, rfl, hg, hh, r⟩
  · simp [Value.ownBlock] at hk
  · simp [Value.ownBlock] at hk
    subst hk
    exact (Array.getElem?_eq_some_iff.1 hh).1
theorem OwnA.block (h : OwnA e sz enc base w v xs) : ∀ k, v.ownBlock = some k → base ≤ k := by
  intro k hk
  rcases h.2 with ⟨rfl, h0⟩ | ⟨g, cap, cur, rfl, hg, _⟩
  · simp [Value.ownBlock] at hk
  · simp [Value.ownBlock] at hk; omega
theorem OwnA.keepK (h : OwnA e sz enc base w v xs) (hk : ∀ k, v.ownBlock = some k → w'.heap[k]? = w.heap[k]?) : OwnA e sz enc base w' v xs := by
  refine ⟨h.1, ?_⟩
  rcases h.2 with h0 | ⟨b, cap, cur, rfl, hg, hh, r⟩
  · exact .inl h0
  · exact .inr ⟨b, cap, cur, rfl, hg, (hk b rfl).trans hh, r⟩
theorem OwnA.below (h : OwnA e sz enc base w v xs) (hb : Below w.heap.size w w') : OwnA e sz enc base w' v xs := h.keepK fun k hk => hb.block k (h.lt k hk)
theorem OwnA.alloc (h : OwnA e sz enc base w v xs) (o : Obj) : OwnA e sz enc base (w.alloc o) v xs := h.below ((Below.refl _ _).alloc (Nat.le_refl _) o)
theorem OwnA.low {b2 : Nat} (h : OwnA e sz enc base w v xs) (hb : b2 ≤ base) : OwnA e sz enc b2 w v xs := by
  refine ⟨h.1, ?_⟩
  rcases h.2 with h0 | ⟨g, cap, cur, rfl, hg, r⟩
  · exact .inl h0
  · exact .inr ⟨g, cap, cur, rfl, Nat.le_trans hb hg, r⟩
theorem OwnA.nil (e : TypeId) (sz : Nat) (enc : α → List Value) (base : Nat) (w : World) : OwnA e sz enc base w (.slice none 0 0) [] := ⟨by simp, .inl ⟨rfl, rfl⟩⟩
theorem SlA.below (h : SlA enc w u ys) (hb : Below w.heap.size w w') : SlA enc w' u ys := by
  obtain ⟨A, c, hu, hc, hx⟩ := h
  refine ⟨A, c, hu, hc, fun j q hq => ?_⟩
  obtain ⟨b, o, hA, hcell⟩ := hx j q hq
  exact ⟨b, o, hA, (hb.cell (block_lt_of_cell hcell)).trans hcell⟩
theorem SlA.nil (enc : α → List Value) (w : World) : SlA enc w (.slice none 0 0) ([] : List α) := ⟨none, 0, rfl, Nat.le_refl _, fun j q h => by simp at h⟩
theorem OwnA.sl (h : OwnA e sz enc base w v xs) : SlA enc w v xs := by
  rcases h.2 with ⟨rfl, h0⟩ | ⟨g, cap, cur, rfl, hg, hh, hn, _, hc, ht⟩
  · have : xs = [] := List.eq_nil_of_length_eq_zero h0
    subst this
    exact SlA.nil enc w
  · refine ⟨_, _, rfl, hn, fun j q hq => ⟨g, 0, rfl, ?_⟩⟩
    rw [cell_of_row w g _ cur e (0, 0) hh, Nat.zero_add]
    have h1 : (cur.toList.take (xs.length * sz))[j]? = some q := by rw [ht]; exact hq
    rw [List.getElem?_take] at h1
    split at h1
    · simpa using h1
    · cases h1
/-- a literal in a block of its own -/
theorem OwnA.lit (hsz : ∀ x ∈ xs, (enc x).length = sz) (hb : base ≤ w.heap.size) (hl : xs.length ≤ 1000000) (hn : xs ≠ []) : OwnA e sz enc base (w.alloc (.cells (rowOf (xs.flatMap enc)) e)) (.slice (some ⟨w.heap.size, 0, none⟩) xs.length xs.length) xs := by
  have hlen : (xs.flatMap enc).length = xs.length * sz := by
    clear hl hn
    induction xs with
    | nil => simp
    | cons x xs ih => rw [List.flatMap_cons, List.length_append, ih (fun y hy => hsz y (List.mem_cons_of_mem _ hy)), hsz x (List.mem_cons_self ..), List.length_cons, Nat.succ_mul]; omega
  refine ⟨hlen, .inr ⟨w.heap.size, xs.length, rowOf (xs.flatMap enc), rfl, hb, heap_alloc_new w _, Nat.le_refl _, by unfold maxLen; omega, by unfold rowOf; simp [hlen], ?_⟩⟩
  show List.take (xs.length * sz) (xs.flatMap enc) = _
  exact List.take_of_length_le (by omega)
theorem OwnA.emptyAt {g : Nat} (hb : base ≤ g) (hh : w.heap[g]? = some (.cells #[] e (0, 0))) : OwnA e sz enc base w (.slice (some ⟨g, 0, none⟩) 0 0) ([] : List α) :=
  ⟨by simp, .inr ⟨g, 0, #[], rfl, hb, hh, Nat.le_refl _, by unfold maxLen; omega, by simp, by simp⟩⟩
/-- the run of append(v, u...), with where the result lies -/
theorem run_appA0 {P : Program} {t ty : TypeId} {i : TypeInfo} {z : Value} {bytes : Nat} (ht : P.underlying t = some (.slice e)) (hi : P.info? e = some i) (hz : i.zero = some z) (hs : i.size = sz) (hby : i.bytes = bytes) (hzs : z.cells.size = sz) (hsz0 : 0 < sz) (hb16 : bytes ≤ 64)
    (hsz : ∀ x ∈ ys, (enc x).length = sz) (hone : ∀ x ∈ ys, ∀ q ∈ enc x, q.oneCell' = true)
    (h : OwnA e sz enc base w v xs) (hu : SlA0 enc w u ys) (hlen : xs.length + ys.length ≤ 1000000000) (hbase : base ≤ w.heap.size) :
    ∃ v' w', (Builtin.append_ #[t, t] ty #[v, u]).run P w = .ok v' w' ∧ OwnA e sz enc base w' v' (xs ++ ys) ∧ Below base w w' ∧ (∀ k, k < w.heap.size → v.ownBlock ≠ some k → w'.heap[k]? = w.heap[k]?) ∧ (v'.ownBlock = v.ownBlock ∨ v'.ownBlock = some w.heap.size) := by
  obtain ⟨A, c, rfl, hx⟩ := hu
  have hylen : (ys.flatMap enc).length = ys.length * sz := by
    clear hx hlen hone
    induction ys with
    | nil => simp
    | cons x xs ih => rw [List.flatMap_cons, List.length_append, ih (fun y hy => hsz y (List.mem_cons_of_mem _ hy)), hsz x (List.mem_cons_self ..), List.length_cons, Nat.succ_mul]; omega
  cases A with
  | none =>
    have hy : ys = [] := by
      cases ys with
      | nil => rfl
      | cons y ys =>
        exfalso
        have h0 : 0 < ((y :: ys).flatMap enc).length := by rw [hylen, List.length_cons]; exact Nat.mul_pos (by omega) hsz0
        obtain ⟨b, o, hA, _⟩ := hx 0 _ (List.getElem?_eq_getElem h0)
        cases hA
    subst hy
    refine ⟨v, w, ?_, by simpa using h, Below.refl _ _, fun _ _ _ => rfl, .inl rfl⟩
    rcases h.2 with ⟨rfl, h0⟩ | ⟨g, cap, cur, rfl, _, _, hnc, _⟩
    · simp [Builtin.append_, run_underlying ht, sizeOf, typeInfo, hi, Builtin.lenOf, Builtin.firstCells]
    · simp [Builtin.append_, run_underlying ht, sizeOf, typeInfo, hi, Builtin.lenOf, Builtin.firstCells, hnc, storeCells]
  | some ad =>
    have hcells : ∀ j q, (ys.flatMap enc)[j]? = some q → w.cell? (ad.add j) = some q := by
      intro j q hq
      obtain ⟨b, o, hA, hcell⟩ := hx j q hq
      injection hA with hA
      subst hA
      have : (⟨b, o, none⟩ : Addr).add j = ⟨b, o + j, none⟩ := by unfold Addr.add; split <;> simp_all
      rw [this]; exact hcell
    obtain ⟨v', w', hrun, h2, h3, _, h5⟩ := run_append_own_at (P := P) w base t ty e i z sz bytes ht hi hz hs hby hzs hsz0 v xs.length (xs.flatMap enc) h ad ys.length c (ys.flatMap enc) hylen hcells
      (by intro q hq; obtain ⟨y, hy, hq2⟩ := List.mem_flatMap.1 hq; exact hone y hy q hq2) (by unfold maxLen; omega) (Nat.le_trans (Nat.mul_le_mul hlen hb16) (by omega)) hbase
    refine ⟨v', w', hrun, ?_, (Below.refl _ _).grown h3 hbase h.block, fun k hk hne => h3.block k hk (fun e => hne e.symm), h5⟩
    unfold OwnA
    rw [List.length_append, List.flatMap_append]
    exact h2
theorem run_appA {P : Program} {t ty : TypeId} {i : TypeInfo} {z : Value} {bytes : Nat} (ht : P.underlying t = some (.slice e)) (hi : P.info? e = some i) (hz : i.zero = some z) (hs : i.size = sz) (hby : i.bytes = bytes) (hzs : z.cells.size = sz) (hsz0 : 0 < sz) (hb16 : bytes ≤ 64)
    (hsz : ∀ x ∈ ys, (enc x).length = sz) (hone : ∀ x ∈ ys, ∀ q ∈ enc x, q.oneCell' = true)
    (h : OwnA e sz enc base w v xs) (hu : SlA enc w u ys) (hlen : xs.length + ys.length ≤ 1000000000) (hbase : base ≤ w.heap.size) :
    ∃ v' w', (Builtin.append_ #[t, t] ty #[v, u]).run P w = .ok v' w' ∧ OwnA e sz enc base w' v' (xs ++ ys) ∧ Below base w w' ∧ (∀ k, k < w.heap.size → v.ownBlock ≠ some k → w'.heap[k]? = w.heap[k]?) ∧ (v'.ownBlock = v.ownBlock ∨ v'.ownBlock = some w.heap.size) :=
  run_appA0 ht hi hz hs hby hzs hsz0 hb16 hsz hone h hu.weak hlen hbase
theorem append_typesA {P : Program} {t t2 ty : TypeId} (ht : P.underlying t = some (.slice e)) (ht2 : P.underlying t2 = some (.slice e)) : (Builtin.append_ #[t, t2] ty #[v, u]).run P w = (Builtin.append_ #[t, t] ty #[v, u]).run P w := by
  unfold Builtin.append_
  cases v <;> simp [run_underlying ht, run_underlying ht2, Sem.run_bind]
/-- what a kind of element owes -/
structure ElA (P : Program) (e : TypeId) (sz : Nat) (enc : α → List Value) : Prop where
  ex : ∃ i z bytes, P.info? e = some i ∧ i.zero = some z ∧ i.size = sz ∧ i.bytes = bytes ∧ z.cells.size = sz ∧ bytes ≤ 64
  pos : 0 < sz
  len : ∀ x, (enc x).length = sz
  one : ∀ x, ∀ q ∈ enc x, q.oneCell' = true
theorem wp_appA {P : Program} {o : Oper} {a : Act} {K : Act → World → Prop} {Q : Exit → Act → World → Prop} (E : ElA P e sz enc) (s x : Operand) (t t2 : TypeId) (ho : o.op = .call { callee := .builtin .append, args := #[s, x], argTypes := #[t, t2] })
    (ht : P.underlying t = some (.slice e)) (ht2 : P.underlying t2 = some (.slice e))
    (hv : a.eval s = v) (h : OwnA e sz enc base w v xs) (hx : a.eval x = u) (hu : SlA enc w u ys) (hlen : xs.length + ys.length ≤ 1000000000) (hbase : base ≤ w.heap.size)
    (hK : ∀ v' w', OwnA e sz enc base w' v' (xs ++ ys) → Below base w w' → (∀ k, k < w.heap.size → v.ownBlock ≠ some k → w'.heap[k]? = w.heap[k]?) → (v'.ownBlock = v.ownBlock ∨ v'.ownBlock = some w.heap.size) → K (a.put o.dst v') w') : o.wp P a w K Q := by
  obtain ⟨i, z, bytes, hi, hz, hs, hby, hzs, hb⟩ := E.ex
  obtain ⟨v', w', hrun, h1, h2, h3, h4⟩ := run_appA (P := P) (ty := o.type) ht hi hz hs hby hzs E.pos hb (fun x _ => E.len x) (fun x _ => E.one x) h hu hlen hbase
  unfold Oper.wp execOp
  simp only [ho, resolve, invoke, builtin, Sem.run_bind, Sem.run_pure, Result.andThen_ok, List.map_toArray, List.map_cons, List.map_nil, hv, hx, (append_typesA ht ht2).trans hrun]
  exact hK v' w' h1 h2 h3 h4
theorem wp_appA0 {P : Program} {o : Oper} {a : Act} {K : Act → World → Prop} {Q : Exit → Act → World → Prop} (E : ElA P e sz enc) (s x : Operand) (t t2 : TypeId) (ho : o.op = .call { callee := .builtin .append, args := #[s, x], argTypes := #[t, t2] })
    (ht : P.underlying t = some (.slice e)) (ht2 : P.underlying t2 = some (.slice e))
    (hv : a.eval s = v) (h : OwnA e sz enc base w v xs) (hx : a.eval x = u) (hu : SlA0 enc w u ys) (hlen : xs.length + ys.length ≤ 1000000000) (hbase : base ≤ w.heap.size)
    (hK : ∀ v' w', OwnA e sz enc base w' v' (xs ++ ys) → Below base w w' → (∀ k, k < w.heap.size → v.ownBlock ≠ some k → w'.heap[k]? = w.heap[k]?) → (v'.ownBlock = v.ownBlock ∨ v'.ownBlock = some w.heap.size) → K (a.put o.dst v') w') : o.wp P a w K Q := by
  obtain ⟨i, z, bytes, hi, hz, hs, hby, hzs, hb⟩ := E.ex
  obtain ⟨v', w', hrun, h1, h2, h3, h4⟩ := run_appA0 (P := P) (ty := o.type) ht hi hz hs hby hzs E.pos hb (fun x _ => E.len x) (fun x _ => E.one x) h hu hlen hbase
  unfold Oper.wp execOp
  simp only [ho, resolve, invoke, builtin, Sem.run_bind, Sem.run_pure, Result.andThen_ok, List.map_toArray, List.map_cons, List.map_nil, hv, hx, (append_typesA ht ht2).trans hrun]
  exact hK v' w' h1 h2 h3 h4
theorem wpList_appA0 {P : Program} {ops : Array Oper} {rest : List Oper} {o : Oper} {a : Act} {Q : Exit → Act → World → Prop} (hgd : o.guard = none) (E : ElA P e sz enc) (s x : Operand) (t t2 : TypeId) (ho : o.op = .call { callee := .builtin .append, args := #[s, x], argTypes := #[t, t2] })
    (ht : P.underlying t = some (.slice e)) (ht2 : P.underlying t2 = some (.slice e))
    (hv : a.eval s = v) (h : OwnA e sz enc base w v xs) (hx : a.eval x = u) (hu : SlA0 enc w u ys) (hlen : xs.length + ys.length ≤ 1000000000) (hbase : base ≤ w.heap.size)
    (hK : ∀ v' w', OwnA e sz enc base w' v' (xs ++ ys) → Below base w w' → (∀ k, k < w.heap.size → v.ownBlock ≠ some k → w'.heap[k]? = w.heap[k]?) → (v'.ownBlock = v.ownBlock ∨ v'.ownBlock = some w.heap.size) → wpList P ops Q rest (a.put o.dst v') w') : wpList P ops Q (o :: rest) a w :=
  wpList_plain hgd fun _ hk => wp_appA0 E s x t t2 ho ht ht2 hv h hx hu hlen hbase fun v' w' h1 h2 h3 h4 => hk _ _ (hK v' w' h1 h2 h3 h4)
end
section
variable {α : Type} {e : TypeId} {sz : Nat} {enc : α → List Value} {B : Nat} {w0 w w' : World} {ev : Nat → Option Value} {S : List (Nat × Nat × List α)} {c cu f : Nat} {LF LIT : List α} {D : Nat → Bool} {x : Nat → Value}
end
end Go.Proofs.YteliflcbegcdlaaGreatDoor

namespace Go.Proofs.YteliflcbegcdlaaGreatDoor
open Go.RowKit
set_option linter.unusedVariables false
section
variable {α : Type}
variable {e : TypeId} {sz : Nat} {enc : α → List Value} {B : Nat} {w0 w w' : World} {ev : Nat → Option Value} {c a f : Nat} {v0 : Value} {p : Addr} {L LIT : List α} {D : Nat → Bool} {x : Nat → Value}
end
end Go.Proofs.YteliflcbegcdlaaGreatDoor
