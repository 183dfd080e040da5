/- The reference's polynomials: values, and the state of its loops that collect terms. -/
import Derived.Test.YtlbihllmpbhhcaaDoorRpu
import Derived.Test.YtlbihllmpbhhcaaDoorAps
import Derived.Deep.RegionHeld
namespace Go.Proofs.YtlbihllmpbhhcaaDoor
open Go.RowKit
set_option linter.unusedVariables false

def et (t : Int × Int) : List Value := [.int .i64 t.1, .int .i64 t.2]
theorem info_rt : (Tryd.prog.info? 86).map (fun i => (i.zero, i.size, i.bytes)) = some (some (.agg #[.int .i64 0, .int .i64 0]), 2, 16) := by kernel_rfl
theorem elT : ElA Tryd.prog 86 2 et where
  ex := by
    obtain ⟨i, hi, hz, hs, hb⟩ := info_parts info_rt
    exact ⟨i, _, 16, hi, hz, hs, hb, rfl, by omega⟩
  pos := by omega
  len := fun x => rfl
  one := fun x q h => by unfold et at h; simp at h; rcases h with rfl | rfl <;> rfl
theorem info_rp : (Tryd.prog.info? 36).map (·.size) = some 2 := by kernel_rfl
/-- a polynomial of the reference -/
def RP (w : World) (v : Value) (p : Pol) : Prop := ∃ A c, v = .agg #[.slice A (p.getD []).length c, .bool p.isNone] ∧ SlA et w (.slice A (p.getD []).length c) (p.getD [])
theorem RP.below {w w' : World} {v : Value} {p : Pol} (h : RP w v p) (hb : Below w.heap.size w w') : RP w' v p := by
  obtain ⟨A, c, hv, hx⟩ := h
  exact ⟨A, c, hv, hx.below hb⟩
theorem RP.big (w : World) : RP w (.agg #[.slice none 0 0, .bool true]) none := ⟨none, 0, rfl, SlA.nil _ w⟩
theorem RP.zero (w : World) : RP w (.agg #[.slice none 0 0, .bool false]) (some []) := ⟨none, 0, rfl, SlA.nil _ w⟩
theorem RP.parts {w : World} {v : Value} {p : Pol} (h : RP w v p) : ∃ (b : Bool) (A : Option Addr) (n c : Nat), v = .agg #[.slice A n c, .bool b] ∧ b = p.isNone ∧ n = (p.getD []).length := by
  obtain ⟨A, c, hv, _⟩ := h
  exact ⟨_, A, _, c, hv, rfl, rfl⟩
/-- cells that no element of the slice lies in -/
theorem SlA.far {w : World} {v : Value} {xs : List (Int × Int)} (h : SlA et w v xs) {g : Nat} {t : TypeId} {b : Bool} {A : Option Addr} {n c : Nat} (hg : Arr w g t [.slice A n c, .bool b]) (u1 u2 : Value) : SlA et ((w.setCell ⟨g, 0, none⟩ u1).setCell ⟨g, 1, none⟩ u2) v xs := by
  obtain ⟨A', c', hv, hc, hx⟩ := h
  refine ⟨A', c', hv, hc, fun j q hq => ?_⟩
  obtain ⟨b', o', hA, hcell⟩ := hx j q hq
  have hint : ∃ z, q = .int .i64 z := by
    have := List.mem_of_getElem? hq
    obtain ⟨y, _, hy⟩ := List.mem_flatMap.1 this
    unfold et at hy
    simp at hy
    rcases hy with rfl | rfl
    · exact ⟨_, rfl⟩
    · exact ⟨_, rfl⟩
  obtain ⟨z, rfl⟩ := hint
  have ne : g ≠ b' := fun e => by
    subst e
    rw [hg.cell] at hcell
    rcases (by omega : o' + j = 0 ∨ o' + j = 1 ∨ 2 ≤ o' + j) with q | q | q
    · rw [q] at hcell; injection hcell with hcell; cases hcell
    · rw [q] at hcell; injection hcell with hcell; cases hcell
    · rw [List.getElem?_eq_none (by simpa using q)] at hcell; cases hcell
  refine ⟨b', o', hA, ?_⟩
  rw [World.cell?_setCell_far _ _ _ _ ne, World.cell?_setCell_far _ _ _ _ ne]; exact hcell
theorem RP.box {w : World} {v : Value} {p : Pol} {g : Nat} {t : TypeId} {b : Bool} {A : Option Addr} {n c : Nat} (h : RP w v p) (hg : Arr w g t [.slice A n c, .bool b]) (u1 u2 : Value) : RP ((w.setCell ⟨g, 0, none⟩ u1).setCell ⟨g, 1, none⟩ u2) v p := by
  obtain ⟨A', c', hv, hx⟩ := h
  exact ⟨A', c', hv, hx.far hg u1 u2⟩
/-- the state of a loop that collects terms -/
structure RcS (r : Nat) (w3 W : World) (s : Value) (R : List (Int × Int)) : Prop where
  bel : Below r w3 W
  siz : r + 2 ≤ W.heap.size
  res : Arr W r 36 [.slice none 0 0, .bool false]
  acc : Arr W (r + 1) 36 [s, .bool false]
  own : OwnA 86 2 et (r + 2) W s R
section
variable {r : Nat} {w3 W W' : World} {s s' : Value} {R : List (Int × Int)} {m : Int × Int}
theorem RcS.below (h : RcS r w3 W s R) (hb : Below W.heap.size W W') : RcS r w3 W' s R := by
  have h1 := h.siz
  exact ⟨h.bel.trans (hb.mono (by omega)), Nat.le_trans h1 hb.size, h.res.below hb h.res.lt, h.acc.below hb h.acc.lt, h.own.below hb⟩
theorem RcS.ne (h : RcS r w3 W s R) : s.ownBlock ≠ some (r + 1) ∧ s.ownBlock ≠ some r := by
  constructor
  · intro e; have := h.own.block _ e; omega
  · intro e; have := h.own.block _ e; omega
theorem RcS.app (h : RcS r w3 W s R) (ho : OwnA 86 2 et (r + 2) W' s' (R ++ [m])) (hk : Kpt (r + 2) W W' s s') : RcS r w3 (W'.setCell ⟨r + 1, 0, none⟩ s') s' (R ++ [m]) := by
  have h1 := h.siz
  have h2 := hk.bel.size
  refine ⟨(h.bel.trans (hk.bel.mono (by omega))).setCell (p := ⟨r + 1, 0, none⟩) (show r ≤ r + 1 by omega) _, by simp; omega, (hk.arr h.res h.ne.2).far (p := ⟨r + 1, 0, none⟩) (show r ≠ r + 1 by omega) _, (hk.arr h.acc h.ne.1).set 0 s', ho.keepK fun k hk' => Below.heap_setCell _ _ _ _ (fun e => ?_)⟩
  have := ho.block k hk'
  simp only at e
  omega
end
theorem colL_snoc {L : List (Int × Int)} {k : Nat} (hk : k < L.length) : colL (L.take (k + 1)) = colL (L.take k) ++ (if L[k].2 = 0 then [] else [L[k]]) := by
  rw [← List.take_append_getElem hk, colL_append]
  congr 1
  rw [colL, colL, List.append_nil]
theorem colB_snoc {L : List (Int × Int)} {k : Nat} (hk : k < L.length) : colB (L.take (k + 1)) = (colB (L.take k) && (L[k].2 == 0 || (decide (-1125899906842624 ≤ L[k].2 ∧ L[k].2 ≤ 1125899906842624) && decide (-1048576 ≤ L[k].1 ∧ L[k].1 ≤ 1048576)))) := by
  rw [← List.take_append_getElem hk, colB_append]
  congr 1
  rw [colB, colB, Bool.and_true]
theorem nw_zero (X : Int) : (nh X = 0 ∧ nl X = 0) ↔ X = 0 := by unfold nh nl; omega
end Go.Proofs.YtlbihllmpbhhcaaDoor
