/- wirtinger.Arcs, unravelref27.Arcs. -/
/- The coloring matrix: plain; slices of slices of integers. -/
import Derived.Test.YtcjaloddgilnpaaZAcw
import Derived.Test.YtcjaloddgilnpaaZArw
namespace Go.Proofs.Ytcjaloddgilnpaa
open Go.RowKit
set_option linter.unusedVariables false

/-- the arcs of the half-edges, and how many columns there are -/
def arcL (M : List Int) : List Nat := numA (labA M M.length M.length) M.length M.length
def colN (M : List Int) (L : Int) : Nat := rk (labA M M.length M.length) M.length + L.toNat
theorem valB_ok {S M : List Int} {L : Int} (h : valB S M L = true) : Ok S M L := by
  unfold valB at h
  exact ok_of (Bool.and_eq_true_iff.1 h).1

set_option maxHeartbeats 1000000 in
theorem Arcs_no (vs vm : Value) (S M : List Int) (L : Int) (w : World) (hS : Ints w vs S) (hM : Ints w vm M) (hv : valB S M L = false) :
    Calls Try.prog 33 #[.agg #[vs, vm, .int .i64 L]] w fun e w' => e = .returned (.tuple #[.slice none 0 0, .int .i64 0, .int .i64 1]) ∧ Below w.heap.size w w' := by
  have hW : Arr (w.alloc (.cells #[vs, vm, .int .i64 L] 24)) w.heap.size 24 [vs, vm, .int .i64 L] ∧ Below w.heap.size w (w.alloc (.cells #[vs, vm, .int .i64 L] 24)) := ⟨Arr.new w _ _, (Below.refl _ _).alloc (Nat.le_refl _) _⟩
  have HC := Lib.hid (fun W (hb : Below w.heap.size w W) => valid_code vs vm S M L W (hS.below hb) (hM.below hb))
  rw [hv] at HC
  clear hv
  obtain ⟨A, c, rfl, hc, hx⟩ := hS
  obtain ⟨A2, c2, rfl, hc2, hx2⟩ := hM
  clear hx hx2
  go_enter Try.func33, Try.ntmps33
  go_upto_region 1 with fail
  generalize (w.alloc (.cells #[.slice A S.length c, .slice A2 M.length c2, .int .i64 L] 24)) = w4 at hW ⊢
  obtain ⟨q0, hb4⟩ := hW
  have y0 := q0.cell 0
  have y1 := q0.cell 1
  have y2 := q0.cell 2
  go_wp2_with (go_at_call 38; refine (HC.out _ hb4).mono ?_; rintro e w5 ⟨rfl, hb5⟩)
  exact bodyPost_ret (v := .tuple #[.slice none 0 0, .int .i64 0, .int .i64 1]) (by simp [results, Try.results33, go_sem]) rfl ⟨rfl, hb4.trans (hb5.mono hb4.size)⟩

set_option maxHeartbeats 1000000 in
theorem Arcs_yes (vs vm : Value) (S M : List Int) (L : Int) (w : World) (hS : Ints w vs S) (hM : Ints w vm M) (hv : valB S M L = true) :
    Calls Try.prog 33 #[.agg #[vs, vm, .int .i64 L]] w fun e w' => ∃ g, e = .returned (.tuple #[.slice (some ⟨g, 0, none⟩) M.length M.length, .int .i64 (colN M L : Nat), .int .i64 0]) ∧ w.heap.size ≤ g ∧ Arr w' g 3 (nc (arcL M)) ∧ Below w.heap.size w w' := by
  have hW : Arr (w.alloc (.cells #[vs, vm, .int .i64 L] 24)) w.heap.size 24 [vs, vm, .int .i64 L] ∧ Below w.heap.size w (w.alloc (.cells #[vs, vm, .int .i64 L] 24)) := ⟨Arr.new w _ _, (Below.refl _ _).alloc (Nat.le_refl _) _⟩
  have HK := Lib.hid (valB_ok hv)
  have HC := Lib.hid (fun W (hb : Below w.heap.size w W) => valid_code vs vm S M L W (hS.below hb) (hM.below hb))
  rw [hv] at HC
  clear hv
  have HA := Lib.hid (fun W (hb : Below w.heap.size w W) => arcs_code vs vm S M L W (hS.below hb) (hM.below hb) HK.out)
  have hrk := rk_le (labA M M.length M.length) M.length
  have hml : M.length ≤ 256 := by have := HK.out.m; have := HK.out.n; omega
  have hl0 := HK.out.l0
  have hl1 := HK.out.l1
  have HCN := Lib.hid (show ((colN M L : Nat) : Int) = ((rk (labA M M.length M.length) M.length : Nat) : Int) + L by unfold colN; omega)
  have HAL := Lib.hid (show arcL M = numA (labA M M.length M.length) M.length M.length from rfl)
  rw [HCN.out, HAL.out]
  clear HCN HAL
  generalize rk (labA M M.length M.length) M.length = R at *
  obtain ⟨A, c, rfl, hc, hx⟩ := hS
  obtain ⟨A2, c2, rfl, hc2, hx2⟩ := hM
  clear hx hx2
  go_enter Try.func33, Try.ntmps33
  go_upto_region 1 with fail
  generalize (w.alloc (.cells #[.slice A S.length c, .slice A2 M.length c2, .int .i64 L] 24)) = w4 at hW ⊢
  obtain ⟨q0, hb4⟩ := hW
  have y0 := q0.cell 0
  have y1 := q0.cell 1
  have y2 := q0.cell 2
  go_upto_region 3 with (go_at_call 38; refine (HC.out _ hb4).mono ?_; rintro e w5 ⟨rfl, hb5⟩)
  have hb6 := hb4.trans (hb5.mono hb4.size)
  have q1 := q0.below hb5 q0.lt
  clear y0 y1 y2
  have y0 := q1.cell 0
  have y1 := q1.cell 1
  have y2 := q1.cell 2
  go_upto_region 4 with (go_at_call 60; refine (HA.out _ hb6).mono ?_; rintro e w7 ⟨g, rfl, hg7, a7, hb7⟩)
  have q2 := q1.below hb7 q1.lt
  have y3 := q2.cell 2
  have wa : IntKind.i64.wrap ((R : Int) + L) = (R : Int) + L := IntWalk.i64_in _ (by omega)
  clear y0 y1 y2
  go_quiet (fail)
  clear wa
  go_wp2_with fail
  exact bodyPost_ret (v := .tuple #[.slice (some ⟨g, 0, none⟩) M.length M.length, .int .i64 ((R : Int) + L), .int .i64 0]) (by simp [results, Try.results33, go_sem]) rfl ⟨g, rfl, Nat.le_trans hb6.size hg7, a7, bdrewN (hb6.trans (hb7.mono hb6.size)) _⟩
end Go.Proofs.Ytcjaloddgilnpaa

namespace Go.Proofs.Ytcjaloddgilnpaa
set_option linter.unusedVariables false
open Go.RowKit

def addI (r : List Int) (i : Nat) (d : Int) : List Int := r.set i (gi r i + d)
theorem addI_length (r : List Int) (i : Nat) (d : Int) : (addI r i d).length = r.length := by simp [addI]
/-- a row of the matrix: the over arc counts 2, the two others -1 each -/
def rowM (arc : List Nat) (cols c : Nat) : List Int := addI (addI (addI (List.replicate cols 0) (gn arc (4 * c + 1)) 2) (gn arc (4 * c)) (-1)) (gn arc (4 * c + 2)) (-1)
theorem rowM_length (arc : List Nat) (cols c : Nat) : (rowM arc cols c).length = cols := by simp [rowM, addI_length]
def matM (arc : List Nat) (cols n : Nat) : List (List Int) := (List.range n).map (rowM arc cols)
theorem matM_length (arc : List Nat) (cols n : Nat) : (matM arc cols n).length = n := by simp [matM]
theorem matM_get {arc : List Nat} {cols n i : Nat} (h : i < n) : (matM arc cols n)[i]? = some (rowM arc cols i) := by simp [matM, h]
theorem matM_succ (arc : List Nat) (cols n : Nat) : matM arc cols (n + 1) = matM arc cols n ++ [rowM arc cols n] := by simp [matM, List.range_succ]
theorem addI_bd {r : List Int} {i : Nat} {d b e : Int} (h : ∀ j, -b ≤ gi r j ∧ gi r j ≤ b) (hd : -e ≤ d ∧ d ≤ e) (he : 0 ≤ e) : ∀ j, -(b + e) ≤ gi (addI r i d) j ∧ gi (addI r i d) j ≤ b + e := by
  intro j
  have hj := h j
  have hi := h i
  unfold addI
  rcases Nat.lt_or_ge i r.length with q | q
  · rw [gi_set _ _ _ _ q]
    split <;> omega
  · rw [List.set_eq_of_length_le q]; omega
theorem gi_zeros (n j : Nat) : gi (List.replicate n (0 : Int)) j = 0 := by
  unfold gi; rw [List.getElem?_replicate]; split <;> rfl

/-- v is a slice of slices of integers that reads as rows -/
def Mat (w : World) (v : Value) (rows : List (List Int)) : Prop :=
  ∃ A c, v = .slice A rows.length c ∧ rows.length ≤ c ∧ ∀ i row, rows[i]? = some row → ∃ b o, A = some ⟨b, o, none⟩ ∧ b < w.heap.size ∧ ∃ u, w.cell? ⟨b, o + i, none⟩ = some u ∧ Ints w u row
theorem Mat.below {w w' : World} {v : Value} {rows : List (List Int)} (h : Mat w v rows) (hb : Below w.heap.size w w') : Mat w' v rows := by
  obtain ⟨A, c, e, hc, hr⟩ := h
  refine ⟨A, c, e, hc, fun i row hi => ?_⟩
  obtain ⟨b, o, hA, hlt, u, hu, hI⟩ := hr i row hi
  exact ⟨b, o, hA, Nat.lt_of_lt_of_le hlt hb.size, u, (hb.cell hlt).trans hu, hI.below hb⟩
theorem Mat.drewN {w : World} {v : Value} {rows : List (List Int)} (h : Mat w v rows) (n : Nat) : Mat (w.drewN n) v rows := h
theorem Mat.nil (w : World) : Mat w (.slice none 0 0) [] := ⟨none, 0, rfl, Nat.le_refl _, fun i row h => by simp at h⟩
theorem Mat.at_ {w : World} {A : Option Addr} {n c i : Nat} {rows : List (List Int)} (h : Mat w (.slice A n c) rows) (hi : i < rows.length) : ∃ b o, A = some ⟨b, o, none⟩ ∧ b < w.heap.size ∧ ∃ u, w.cell? ⟨b, o + i, none⟩ = some u ∧ Ints w u rows[i] := by
  obtain ⟨A', c', e, hc, hr⟩ := h
  injection e with e1 e2 e3
  subst e1
  exact hr i rows[i] (List.getElem?_eq_getElem hi)
/-- rows that lie in blocks of their own between lo and hi -/
def RowsA (e : TypeId) (w : World) (lo hi : Nat) (vs : List Value) (rows : List (List Int)) : Prop :=
  vs.length = rows.length ∧ ∀ (i : Nat) (v : Value) (row : List Int), vs[i]? = some v → rows[i]? = some row → ∃ b, v = .slice (some ⟨b, 0, none⟩) row.length row.length ∧ lo < b ∧ b < hi ∧ Arr w b e (ic row)
theorem RowsA.nil (e : TypeId) (w : World) (lo hi : Nat) : RowsA e w lo hi [] [] := ⟨rfl, fun i v row h => by simp at h⟩
theorem RowsA.keep {e : TypeId} {w w' : World} {lo hi : Nat} {vs : List Value} {rows : List (List Int)} (h : RowsA e w lo hi vs rows) (hk : ∀ b, lo < b → b < hi → b < w.heap.size → w'.heap[b]? = w.heap[b]?) : RowsA e w' lo hi vs rows :=
  ⟨h.1, fun i v row h1 h2 => by
    obtain ⟨b, e, hl, hh, ha⟩ := h.2 i v row h1 h2
    exact ⟨b, e, hl, hh, (hk b hl hh ha.lt).trans ha⟩⟩
theorem RowsA.onl {e : TypeId} {w w' : World} {lo hi : Nat} {vs : List Value} {rows : List (List Int)} (h : RowsA e w lo hi vs rows) (o : Onl hi w w') : RowsA e w' lo hi vs rows := h.keep fun b _ hb _ => o.block b (by omega)
theorem RowsA.mono {e : TypeId} {w : World} {lo hi hi' : Nat} {vs : List Value} {rows : List (List Int)} (h : RowsA e w lo hi vs rows) (hh : hi ≤ hi') : RowsA e w lo hi' vs rows :=
  ⟨h.1, fun i v row h1 h2 => by
    obtain ⟨b, e, hl, hb, ha⟩ := h.2 i v row h1 h2
    exact ⟨b, e, hl, by omega, ha⟩⟩
theorem RowsA.snoc {e : TypeId} {w : World} {lo b : Nat} {vs : List Value} {rows : List (List Int)} {row : List Int} (h : RowsA e w lo b vs rows) (hl : lo < b) (ha : Arr w b e (ic row)) : RowsA e w lo (b + 1) (vs ++ [.slice (some ⟨b, 0, none⟩) row.length row.length]) (rows ++ [row]) := by
  refine ⟨by simp [h.1], fun i v r h1 h2 => ?_⟩
  rcases Nat.lt_or_ge i vs.length with q | q
  · rw [List.getElem?_append_left q] at h1
    rw [List.getElem?_append_left (by rw [← h.1]; exact q)] at h2
    exact (h.mono (Nat.le_succ _)).2 i v r h1 h2
  · rw [List.getElem?_append_right q] at h1
    rw [List.getElem?_append_right (by rw [← h.1]; exact q)] at h2
    have hi : i - vs.length = 0 := by
      have := (List.getElem?_eq_some_iff.1 h1).1; simp at this; omega
    rw [hi] at h1
    rw [← h.1, hi] at h2
    simp at h1 h2
    subst h1 h2
    exact ⟨b, rfl, hl, Nat.lt_succ_self _, ha⟩
theorem ic_length (l : List Int) : (ic l).length = l.length := by simp [ic]
theorem Ints.of_ic {w : World} {b : Nat} {t : TypeId} {xs : List Int} (h : Arr w b t (ic xs)) : Ints w (.slice (some ⟨b, 0, none⟩) xs.length xs.length) xs := Ints.of_arr h
theorem RowsA.mat {e t : TypeId} {w : World} {lo hi : Nat} {vs : List Value} {rows : List (List Int)} (h : RowsA e w lo hi vs rows) {R : Nat} (hR : Arr w R t vs) : Mat w (.slice (some ⟨R, 0, none⟩) rows.length rows.length) rows := by
  refine ⟨_, _, rfl, Nat.le_refl _, fun i row hi => ⟨R, 0, rfl, hR.lt, ?_⟩⟩
  have hl : i < vs.length := by rw [h.1]; exact (List.getElem?_eq_some_iff.1 hi).1
  obtain ⟨b, e, _, _, ha⟩ := h.2 i vs[i] row (List.getElem?_eq_getElem hl) hi
  refine ⟨vs[i], ?_, ?_⟩
  · rw [Nat.zero_add, hR.cell, List.getElem?_eq_getElem hl]
  · rw [e]; exact Ints.of_ic ha
end Go.Proofs.Ytcjaloddgilnpaa
