/- Words: a slice of moves that reads as a list; slices that survive writes to some blocks. -/
import Derived.Test.YtgclngoeglopcaaShf
import Derived.Test.YtgclngoeglopcaaFresh
namespace Go.Proofs.Ytgclngoeglopcaa
open Go.RowKit
set_option linter.unusedVariables false

structure Mv where
  k : Int
  rows : Bool
  a : Int
  v : Int
def Mv.cells (m : Mv) : List Value := [.int .i64 m.k, .bool m.rows, .int .i64 m.a, .int .i64 m.v]
def Mv.app (m : Mv) (X O : List Int) : Int × List Int × List Int := applyM X O m.k m.rows m.a m.v

/-- the value is a slice that reads as the moves ms -/
def Moves (w : World) (v : Value) (ms : List Mv) : Prop :=
  ∃ A c, v = .slice A ms.length c ∧ ∀ k (h : k < ms.length), ∃ b o, A = some ⟨b, o, none⟩ ∧ ∀ j u, ms[k].cells[j]? = some u → w.cell? ⟨b, o + k * 4 + j, none⟩ = some u
theorem Moves.below {w w' : World} {v : Value} {ms : List Mv} (h : Moves w v ms) (hb : Below w.heap.size w w') : Moves w' v ms := by
  obtain ⟨A, c, hv, hx⟩ := h
  refine ⟨A, c, hv, fun k hk => ?_⟩
  obtain ⟨b, o, hA, hc⟩ := hx k hk
  exact ⟨b, o, hA, fun j u hu => (hb.cell (block_lt_of_cell (hc j u hu))).trans (hc j u hu)⟩
theorem Moves.at_ {w : World} {A : Option Addr} {n c k : Nat} {ms : List Mv} (h : Moves w (.slice A n c) ms) (hk : k < ms.length) :
    ∃ b o, A = some ⟨b, o, none⟩ ∧ b < w.heap.size ∧ w.cell? ⟨b, o + k * 4, none⟩ = some (.int .i64 ms[k].k) ∧ w.cell? ⟨b, o + k * 4 + 1, none⟩ = some (.bool ms[k].rows) ∧ w.cell? ⟨b, o + k * 4 + 2, none⟩ = some (.int .i64 ms[k].a) ∧ w.cell? ⟨b, o + k * 4 + 3, none⟩ = some (.int .i64 ms[k].v) := by
  obtain ⟨A', c', hv, hx⟩ := h
  injection hv with h1 h2 h3
  subst h1
  obtain ⟨b, o, hA, hc⟩ := hx k hk
  have h0 := hc 0 _ rfl
  exact ⟨b, o, hA, block_lt_of_cell h0, h0, hc 1 _ rfl, hc 2 _ rfl, hc 3 _ rfl⟩

/-- the slice reads as xs in every world that differs from w in the blocks of E at most -/
def IntsE (E : Nat → Prop) (w : World) (v : Value) (xs : List Int) : Prop := ∀ W : World, (∀ b, ¬ E b → b < w.heap.size → W.heap[b]? = w.heap[b]?) → Ints W v xs
theorem IntsE.ints {E : Nat → Prop} {w : World} {v : Value} {xs : List Int} (h : IntsE E w v xs) : Ints w v xs := h w (fun _ _ _ => rfl)
theorem IntsE.below {E : Nat → Prop} {w w' : World} {v : Value} {xs : List Int} (h : IntsE E w v xs) (hb : Below w.heap.size w w') : IntsE E w' v xs :=
  fun W hW => h W (fun b hE hlt => (hW b hE (Nat.lt_of_lt_of_le hlt hb.size)).trans (hb.block b hlt))
theorem IntsE.set2 {E : Nat → Prop} {w : World} {v : Value} {xs : List Int} (h : IntsE E w v xs) {r : Nat} (hr : E r) (i j : Nat) (u u' : Value) : IntsE E ((w.setCell ⟨r, i, none⟩ u).setCell ⟨r, j, none⟩ u') v xs :=
  fun W hW => h W (fun b hE hlt => (hW b hE (by simpa [World.setCell] using hlt)).trans (heap_set2 w r i j b u u' (fun e => hE (by rw [e]; exact hr))))
theorem IntsE.of_fresh {E : Nat → Prop} {B : Nat} {w : World} {v : Value} {xs : List Int} (h : IntsF B w v xs) (hE : ∀ b, E b → b < B) : IntsE E w v xs :=
  fun W hW => h W (fun b hb hlt => hW b (fun e => by have := hE b e; omega) hlt)
theorem IntsE.nil (E : Nat → Prop) (w : World) : IntsE E w (.slice none 0 0) [] := fun W _ => Ints.nil W
theorem IntsE.of_arr {E : Nat → Prop} {w : World} {g : Nat} {t : TypeId} {xs : List Int} (h : Arr w g t (Go.Proofs.Ytgclngoeglopcaa.ints xs)) (hE : ¬ E g) : IntsE E w (.slice (some ⟨g, 0, none⟩) xs.length xs.length) xs :=
  fun W hW => Ints.of_arr (t := t) ((hW g hE h.lt).trans h)

/-- moves one after the other: the error number, the last grid, the place of the first move that fails -/
def playFrom : Nat → List Int → List Int → List Mv → Int × List Int × List Int × Int
  | _, X, O, [] => (0, X, O, -1)
  | i, X, O, m :: ms => if (m.app X O).1 = 0 then playFrom (i + 1) (m.app X O).2.1 (m.app X O).2.2 ms else ((m.app X O).1, [], [], i)
theorem playFrom_drop (X O : List Int) (ms : List Mv) {k : Nat} (h : k < ms.length) : playFrom k X O (ms.drop k) = if (ms[k].app X O).1 = 0 then playFrom (k + 1) (ms[k].app X O).2.1 (ms[k].app X O).2.2 (ms.drop (k + 1)) else ((ms[k].app X O).1, [], [], k) := by
  rw [List.drop_eq_getElem_cons h, playFrom]
def playM (X O : List Int) (ms : List Mv) : Int × List Int × List Int × Int :=
  if validB X O = false then (1, [], [], -1) else playFrom 0 X O ms

theorem trl_zero {l : List Int} (h : Pm l) : trl 0 0 l = l := by
  apply List.ext_getElem?
  intro j
  by_cases hj : j < l.length
  · rw [List.getElem?_eq_getElem hj]
    have hg := h.get hj
    have e1 : ∀ k, k < l.length → (((k : Int) + (0 : Nat)) % (l.length : Int)) = k := fun k hk => by rw [show ((k : Int) + (0 : Nat)) = k from by simp]; exact Int.emod_eq_of_lt (by omega) (by omega)
    refine (reloc_get (mv := mvTr l.length (0 : Nat) (0 : Nat)) hj hj (e1 j hj) (fun k' h' hne e => ?_)).trans ?_
    · have := e1 k' h'
      simp only [mvTr] at e
      omega
    · simp only [mvTr]
      rw [show l[j] + ((0 : Nat) : Int) = l[j] from by simp, Int.emod_eq_of_lt hg.1 hg.2]
  · rw [List.getElem?_eq_none (by unfold trl; rw [reloc_length]; omega), List.getElem?_eq_none (by omega)]
theorem shiftM_zero {X O : List Int} (h : Vd X O) : shiftM X O 0 0 = (0, X, O) := by
  unfold shiftM
  rw [if_neg (by simp [(validB_iff X O).2 h])]
  simp only [Int.zero_emod, Int.toNat_zero]
  rw [trl_zero h.pX, trl_zero h.pO]
end Go.Proofs.Ytgclngoeglopcaa
