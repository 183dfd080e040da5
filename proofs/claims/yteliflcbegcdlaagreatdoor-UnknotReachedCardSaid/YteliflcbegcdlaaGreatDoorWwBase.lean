/- Words for memory that all walks of this seat use: a block that is a known row, a slice that reads as a list of integers. -/
import Derived.Tactics
import Derived.Tactics2
import Derived.WalkKit
import Derived.LoopTactic
import Derived.RegionTactic
import Derived.BigQuiet
import Derived.Deep.QuietTactic
import Derived.Deep.Draws
import Derived.Laws.OwnMore
import Derived.Laws.MakeOwn
import Derived.Laws.Rows
import Derived.Lib.Hide
import Derived.Below
namespace Go.Proofs.YteliflcbegcdlaaGreatDoor
set_option linter.unusedVariables false
open Go.RowKit
/-- A list as an array, closed to the walk. -/
def rowOf (cs : List Value) : Array Value := cs.toArray
theorem rowOf_get (cs : List Value) (i : Nat) : (rowOf cs)[i]? = cs[i]? := by simp [rowOf]
theorem heap_push (w : World) (o : Obj) : (w.alloc o).heap = w.heap.push o := rfl
theorem bdrewN {B : Nat} {a w : World} (h : Below B a w) (n : Nat) : Below B a (w.drewN n) := ⟨h.os, h.tape, h.output, h.size, h.block⟩
/-- Block b of the world w is the row cs of element type t, nothing in it frozen. -/
def Arr (w : World) (b : Nat) (t : TypeId) (cs : List Value) : Prop := w.heap[b]? = some (.cells (rowOf cs) t (0, 0))
section
variable {w w' : World} {b : Nat} {t : TypeId} {cs : List Value}
theorem Arr.lt (h : Arr w b t cs) : b < w.heap.size := by
  rcases Nat.lt_or_ge b w.heap.size with hlt | hge
  · exact hlt
  · unfold Arr at h; rw [Array.getElem?_eq_none hge] at h; cases h
theorem Arr.cell (h : Arr w b t cs) (i : Nat) : w.cell? ⟨b, i, none⟩ = cs[i]? := by
  rw [cell_of_row w b i _ t (0, 0) h, rowOf_get]
theorem Arr.frozen (h : Arr w b t cs) (i : Nat) : w.frozen? ⟨b, i, none⟩ = false := frozen_of_row w b i _ t h
theorem Arr.new (w : World) (t : TypeId) (cs : List Value) : Arr (w.alloc (.cells (rowOf cs) t)) w.heap.size t cs := heap_alloc_new w _
theorem Arr.newAt (w : World) (t : TypeId) (cs : List Value) (k : Nat) (hk : k = w.heap.size) : Arr (w.alloc (.cells (rowOf cs) t)) k t cs := by subst hk; exact Arr.new w t cs
theorem Arr.drew (h : Arr w b t cs) : Arr w.drew b t cs := h
theorem Arr.drewN (h : Arr w b t cs) (n : Nat) : Arr (w.drewN n) b t cs := h
theorem Arr.alloc (h : Arr w b t cs) (o : Obj) : Arr (w.alloc o) b t cs := (Below.heap_alloc w o b h.lt).trans h
theorem Arr.set (h : Arr w b t cs) (i : Nat) (u : Value) : Arr (w.setCell ⟨b, i, none⟩ u) b t (cs.set i u) := by
  unfold Arr at h ⊢
  rw [heap_setCell_same w b i _ t u h]
  simp [rowOf]
theorem Arr.far (h : Arr w b t cs) {p : Addr} (hp : b ≠ p.block) (u : Value) : Arr (w.setCell p u) b t cs := (Below.heap_setCell w p u b hp).trans h
theorem Arr.far2 (h : Arr w b t cs) {r : Nat} (hr : b ≠ r) {i j : Nat} {u v : Value} : Arr ((w.setCell ⟨r, i, none⟩ u).setCell ⟨r, j, none⟩ v) b t cs := (h.far (p := ⟨r, i, none⟩) hr u).far (p := ⟨r, j, none⟩) hr v
theorem bset2 {B : Nat} {a w : World} (h : Below B a w) {r : Nat} (hr : B ≤ r) {i j : Nat} {u v : Value} : Below B a ((w.setCell ⟨r, i, none⟩ u).setCell ⟨r, j, none⟩ v) := (h.setCell (p := ⟨r, i, none⟩) hr u).setCell (p := ⟨r, j, none⟩) hr v
theorem Arr.below {B : Nat} (h : Arr w b t cs) (hb : Below B w w') (hg : b < B) : Arr w' b t cs := (hb.block b hg).trans h
end
/-- The value v is a slice that reads as the integers xs in the world w. -/
def Ints (w : World) (v : Value) (xs : List Int) : Prop :=
  ∃ A c, v = .slice A xs.length c ∧ xs.length ≤ c ∧ ∀ k x, xs[k]? = some x → ∃ b o, A = some ⟨b, o, none⟩ ∧ w.cell? ⟨b, o + k, none⟩ = some (.int .i64 x)
section
variable {w w' : World} {v : Value} {xs : List Int}
theorem Ints.keep (h : Ints w v xs) (hk : ∀ b o, b < w.heap.size → w'.cell? ⟨b, o, none⟩ = w.cell? ⟨b, o, none⟩) : Ints w' v xs := by
  obtain ⟨A, c, hv, hc, hx⟩ := h
  refine ⟨A, c, hv, hc, fun k x hkx => ?_⟩
  obtain ⟨b, o, hA, hcell⟩ := hx k x hkx
  exact ⟨b, o, hA, (hk b (o + k) (block_lt_of_cell hcell)).trans hcell⟩
theorem Ints.below (h : Ints w v xs) (hb : Below w.heap.size w w') : Ints w' v xs := h.keep fun _ _ hlt => hb.cell hlt
theorem Ints.drew (h : Ints w v xs) : Ints w.drew v xs := h
theorem Ints.drewN (h : Ints w v xs) (n : Nat) : Ints (w.drewN n) v xs := h
theorem Ints.alloc (h : Ints w v xs) (o : Obj) : Ints (w.alloc o) v xs := h.below ((Below.refl _ _).alloc (Nat.le_refl _) o)
theorem Ints.at_ {A : Option Addr} {n c k : Nat} (h : Ints w (.slice A n c) xs) (hk : k < xs.length) :
    ∃ b o, A = some ⟨b, o, none⟩ ∧ b < w.heap.size ∧ w.cell? ⟨b, o + k, none⟩ = some (.int .i64 xs[k]) := by
  obtain ⟨A', c', hv, hc, hx⟩ := h
  injection hv with h1 h2 h3
  subst h1
  obtain ⟨b, o, hA, hcell⟩ := hx k xs[k] (List.getElem?_eq_getElem hk)
  exact ⟨b, o, hA, block_lt_of_cell hcell, hcell⟩
theorem Ints.of_arr {b : Nat} {t : TypeId} (h : Arr w b t (xs.map (Value.int .i64))) : Ints w (.slice (some ⟨b, 0, none⟩) xs.length xs.length) xs := by
  refine ⟨_, _, rfl, Nat.le_refl _, fun k x hk => ⟨b, 0, rfl, ?_⟩⟩
  rw [Nat.zero_add, h.cell, List.getElem?_map, hk]; rfl
theorem Ints.nil (w : World) : Ints w (.slice none 0 0) [] := ⟨none, 0, rfl, Nat.le_refl _, fun k x h => by simp at h⟩
end
/-- What make lays: a row of one value. -/
theorem run_make_one {P : Program} (t e : TypeId) (i : TypeInfo) (z : Value) (ht : P.underlying t = some (.slice e)) (hi : P.info? e = some i) (hz : i.zero = some z)
    (hs : i.size = 1) (hzc : z.cells = #[z]) (hby : i.bytes ≤ 24) (n : Nat) (hn : n ≤ 1000000) (w : World) :
    (Instr.makeSlice t (.int .i64 (n : Int)) (.int .i64 (n : Int))).run P w = .ok (.slice (some ⟨w.heap.size, 0, none⟩) n n) (w.alloc (.cells (rowOf (List.replicate n z)) e)) := by
  have hb : (i.bytes : Int) * (n : Int) ≤ 281474976710656 := by
    have h1 : i.bytes * n ≤ 24 * 1000000 := Nat.mul_le_mul hby hn
    have h : ((i.bytes * n : Nat) : Int) ≤ 281474976710656 := by omega
    rwa [Int.natCast_mul] at h
  have hr := run_make (P := P) w t e i z ht hi hz .i64 .i64 n n (by omega) (by omega) hb (by omega)
  simp only [Int.toNat_natCast, hs, Nat.mul_one, hzc] at hr
  rw [hr]
  congr 4
  apply Array.toList_inj.1
  rw [toList_madeCells_one]; simp [rowOf]
end Go.Proofs.YteliflcbegcdlaaGreatDoor
