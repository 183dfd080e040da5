/- wirtinger.Arcs, unravelref27.Arcs. -/
/- The coloring matrix: plain; slices of slices of integers. -/
/- The plain facts of a division with two digits (Knuth's algorithm D), for math/bits.Div64. -/
/-
  DERIVED: THE SHELF's CONTRACTS AT THIS DUMP, IN PLAIN WORDS (tools/lay-plain.mjs out of 'TryShelf.lean', which tools/lay-shelf.mjs wrote): THE SAME DECLARATIONS UNDER THE SAME NAMES: 'import', 'namespace', 'open', 'def', 'theorem' AND NOTHING ELSE: no command of the shelf's: FOR A HAND-IN. Each laying: the table of numbers ('.._ren') and one theorem, a field a fact of the dump's own or the kernel's comparison; each contract: ONE APPLICATION.
-/
import Derived.Test.YtcjaloddgilnpaaZAcw
import Derived.Test.YtcjaloddgilnpaaZArw
import Derived.Shelf.Small.Bits
import Derived.Shelf.Strconv.Itoa0
import Derived.Shelf.Bits.Mul64
import Derived.Shelf.Slices.Equal
import Derived.Shelf.Slices.Empties2
import Derived.Test.YtcjaloddgilnpaaProg
namespace Go.Proofs.Ytcjaloddgilnpaa
open Go.RowKit
set_option linter.unusedVariables false

/-- the arcs of the half-edges, and how many columns there are -/
def arcL (M : List Int) : List Nat := numA (labA M M.length M.length) M.length M.length
def colN (M : List Int) (L : Int) : Nat := rk (labA M M.length M.length) M.length + L.toNat
theorem valB_ok {S M : List Int} {L : Int} (h : valB S M L = true) : Ok S M L := by
  unfold valB at h
  exact ok_of (Bool.and_eq_true_iff.1 h).1

set_option maxHeartbeats 1000000 in
theorem Arcs_no (vs vm : Value) (S M : List Int) (L : Int) (w : World) (hS : Ints w vs S) (hM : Ints w vm M) (hv : valB S M L = false) :
    Calls Try.prog 33 #[.agg #[vs, vm, .int .i64 L]] w fun e w' => e = .returned (.tuple #[.slice none 0 0, .int .i64 0, .int .i64 1]) ∧ Below w.heap.size w w' := by
  have hW : Arr (w.alloc (.cells #[vs, vm, .int .i64 L] 24)) w.heap.size 24 [vs, vm, .int .i64 L] ∧ Below w.heap.size w (w.alloc (.cells #[vs, vm, .int .i64 L] 24)) := ⟨Arr.new w _ _, (Below.refl _ _).alloc (Nat.le_refl _) _⟩
  have HC := Lib.hid (fun W (hb : Below w.heap.size w W) => valid_code vs vm S M L W (hS.below hb) (hM.below hb))
  rw [hv] at HC
  clear hv
  obtain ⟨A, c, rfl, hc, hx⟩ := hS
  obtain ⟨A2, c2, rfl, hc2, hx2⟩ := hM
  clear hx hx2
  go_enter Try.func33, Try.ntmps33
  go_upto_region 1 with fail
  generalize (w.alloc (.cells #[.slice A S.length c, .slice A2 M.length c2, .int .i64 L] 24)) = w4 at hW ⊢
  obtain ⟨q0, hb4⟩ := hW
  have y0 := q0.cell 0
  have y1 := q0.cell 1
  have y2 := q0.cell 2
  go_wp2_with (go_at_call 38; refine (HC.out _ hb4).mono ?_; rintro e w5 ⟨rfl, hb5⟩)
  exact bodyPost_ret (v := .tuple #[.slice none 0 0, .int .i64 0, .int .i64 1]) (by simp [results, Try.results33, go_sem]) rfl ⟨rfl, hb4.trans (hb5.mono hb4.size)⟩

set_option maxHeartbeats 1000000 in
theorem Arcs_yes (vs vm : Value) (S M : List Int) (L : Int) (w : World) (hS : Ints w vs S) (hM : Ints w vm M) (hv : valB S M L = true) :
    Calls Try.prog 33 #[.agg #[vs, vm, .int .i64 L]] w fun e w' => ∃ g, e = .returned (.tuple #[.slice (some ⟨g, 0, none⟩) M.length M.length, .int .i64 (colN M L : Nat), .int .i64 0]) ∧ w.heap.size ≤ g ∧ Arr w' g 3 (nc (arcL M)) ∧ Below w.heap.size w w' := by
  have hW : Arr (w.alloc (.cells #[vs, vm, .int .i64 L] 24)) w.heap.size 24 [vs, vm, .int .i64 L] ∧ Below w.heap.size w (w.alloc (.cells #[vs, vm, .int .i64 L] 24)) := ⟨Arr.new w _ _, (Below.refl _ _).alloc (Nat.le_refl _) _⟩
  have HK := Lib.hid (valB_ok hv)
  have HC := Lib.hid (fun W (hb : Below w.heap.size w W) => valid_code vs vm S M L W (hS.below hb) (hM.below hb))
  rw [hv] at HC
  clear hv
  have HA := Lib.hid (fun W (hb : Below w.heap.size w W) => arcs_code vs vm S M L W (hS.below hb) (hM.below hb) HK.out)
  have hrk := rk_le (labA M M.length M.length) M.length
  have hml : M.length ≤ 256 := by have := HK.out.m; have := HK.out.n; omega
  have hl0 := HK.out.l0
  have hl1 := HK.out.l1
  have HCN := Lib.hid (show ((colN M L : Nat) : Int) = ((rk (labA M M.length M.length) M.length : Nat) : Int) + L by unfold colN; omega)
  have HAL := Lib.hid (show arcL M = numA (labA M M.length M.length) M.length M.length from rfl)
  rw [HCN.out, HAL.out]
  clear HCN HAL
  generalize rk (labA M M.length M.length) M.length = R at *
  obtain ⟨A, c, rfl, hc, hx⟩ := hS
  obtain ⟨A2, c2, rfl, hc2, hx2⟩ := hM
  clear hx hx2
  go_enter Try.func33, Try.ntmps33
  go_upto_region 1 with fail
  generalize (w.alloc (.cells #[.slice A S.length c, .slice A2 M.length c2, .int .i64 L] 24)) = w4 at hW ⊢
  obtain ⟨q0, hb4⟩ := hW
  have y0 := q0.cell 0
  have y1 := q0.cell 1
  have y2 := q0.cell 2
  go_upto_region 3 with (go_at_call 38; refine (HC.out _ hb4).mono ?_; rintro e w5 ⟨rfl, hb5⟩)
  have hb6 := hb4.trans (hb5.mono hb4.size)
  have q1 := q0.below hb5 q0.lt
  clear y0 y1 y2
  have y0 := q1.cell 0
  have y1 := q1.cell 1
  have y2 := q1.cell 2
  go_upto_region 4 with (go_at_call 60; refine (HA.out _ hb6).mono ?_; rintro e w7 ⟨g, rfl, hg7, a7, hb7⟩)
  have q2 := q1.below hb7 q1.lt
  have y3 := q2.cell 2
  have wa : IntKind.i64.wrap ((R : Int) + L) = (R : Int) + L := IntWalk.i64_in _ (by omega)
  clear y0 y1 y2
  go_quiet (fail)
  clear wa
  go_wp2_with fail
  exact bodyPost_ret (v := .tuple #[.slice (some ⟨g, 0, none⟩) M.length M.length, .int .i64 ((R : Int) + L), .int .i64 0]) (by simp [results, Try.results33, go_sem]) rfl ⟨g, rfl, Nat.le_trans hb6.size hg7, a7, bdrewN (hb6.trans (hb7.mono hb6.size)) _⟩
end Go.Proofs.Ytcjaloddgilnpaa

namespace Go.Proofs.Ytcjaloddgilnpaa
set_option linter.unusedVariables false
open Go.RowKit

def addI (r : List Int) (i : Nat) (d : Int) : List Int := r.set i (gi r i + d)
theorem addI_length (r : List Int) (i : Nat) (d : Int) : (addI r i d).length = r.length := by simp [addI]
/-- a row of the matrix: the over arc counts 2, the two others -1 each -/
def rowM (arc : List Nat) (cols c : Nat) : List Int := addI (addI (addI (List.replicate cols 0) (gn arc (4 * c + 1)) 2) (gn arc (4 * c)) (-1)) (gn arc (4 * c + 2)) (-1)
theorem rowM_length (arc : List Nat) (cols c : Nat) : (rowM arc cols c).length = cols := by simp [rowM, addI_length]
def matM (arc : List Nat) (cols n : Nat) : List (List Int) := (List.range n).map (rowM arc cols)
theorem matM_length (arc : List Nat) (cols n : Nat) : (matM arc cols n).length = n := by simp [matM]
theorem matM_get {arc : List Nat} {cols n i : Nat} (h : i < n) : (matM arc cols n)[i]? = some (rowM arc cols i) := by simp [matM, h]
theorem matM_succ (arc : List Nat) (cols n : Nat) : matM arc cols (n + 1) = matM arc cols n ++ [rowM arc cols n] := by simp [matM, List.range_succ]
theorem addI_bd {r : List Int} {i : Nat} {d b e : Int} (h : ∀ j, -b ≤ gi r j ∧ gi r j ≤ b) (hd : -e ≤ d ∧ d ≤ e) (he : 0 ≤ e) : ∀ j, -(b + e) ≤ gi (addI r i d) j ∧ gi (addI r i d) j ≤ b + e := by
  intro j
  have hj := h j
  have hi := h i
  unfold addI
  rcases Nat.lt_or_ge i r.length with q | q
  · rw [gi_set _ _ _ _ q]
    split <;> omega
  · rw [List.set_eq_of_length_le q]; omega
theorem gi_zeros (n j : Nat) : gi (List.replicate n (0 : Int)) j = 0 := by
  unfold gi; rw [List.getElem?_replicate]; split <;> rfl

/-- v is a slice of slices of integers that reads as rows -/
def Mat (w : World) (v : Value) (rows : List (List Int)) : Prop :=
  ∃ A c, v = .slice A rows.length c ∧ rows.length ≤ c ∧ ∀ i row, rows[i]? = some row → ∃ b o, A = some ⟨b, o, none⟩ ∧ b < w.heap.size ∧ ∃ u, w.cell? ⟨b, o + i, none⟩ = some u ∧ Ints w u row
theorem Mat.below {w w' : World} {v : Value} {rows : List (List Int)} (h : Mat w v rows) (hb : Below w.heap.size w w') : Mat w' v rows := by
  obtain ⟨A, c, e, hc, hr⟩ := h
  refine ⟨A, c, e, hc, fun i row hi => ?_⟩
  obtain ⟨b, o, hA, hlt, u, hu, hI⟩ := hr i row hi
  exact ⟨b, o, hA, Nat.lt_of_lt_of_le hlt hb.size, u, (hb.cell hlt).trans hu, hI.below hb⟩
theorem Mat.drewN {w : World} {v : Value} {rows : List (List Int)} (h : Mat w v rows) (n : Nat) : Mat (w.drewN n) v rows := h
theorem Mat.nil (w : World) : Mat w (.slice none 0 0) [] := ⟨none, 0, rfl, Nat.le_refl _, fun i row h => by simp at h⟩
theorem Mat.at_ {w : World} {A : Option Addr} {n c i : Nat} {rows : List (List Int)} (h : Mat w (.slice A n c) rows) (hi : i < rows.length) : ∃ b o, A = some ⟨b, o, none⟩ ∧ b < w.heap.size ∧ ∃ u, w.cell? ⟨b, o + i, none⟩ = some u ∧ Ints w u rows[i] := by
  obtain ⟨A', c', e, hc, hr⟩ := h
  injection e with e1 e2 e3
  subst e1
  exact hr i rows[i] (List.getElem?_eq_getElem hi)
/-- rows that lie in blocks of their own between lo and hi -/
def RowsA (e : TypeId) (w : World) (lo hi : Nat) (vs : List Value) (rows : List (List Int)) : Prop :=
  vs.length = rows.length ∧ ∀ (i : Nat) (v : Value) (row : List Int), vs[i]? = some v → rows[i]? = some row → ∃ b, v = .slice (some ⟨b, 0, none⟩) row.length row.length ∧ lo < b ∧ b < hi ∧ Arr w b e (ic row)
theorem RowsA.nil (e : TypeId) (w : World) (lo hi : Nat) : RowsA e w lo hi [] [] := ⟨rfl, fun i v row h => by simp at h⟩
theorem RowsA.keep {e : TypeId} {w w' : World} {lo hi : Nat} {vs : List Value} {rows : List (List Int)} (h : RowsA e w lo hi vs rows) (hk : ∀ b, lo < b → b < hi → b < w.heap.size → w'.heap[b]? = w.heap[b]?) : RowsA e w' lo hi vs rows :=
  ⟨h.1, fun i v row h1 h2 => by
    obtain ⟨b, e, hl, hh, ha⟩ := h.2 i v row h1 h2
    exact ⟨b, e, hl, hh, (hk b hl hh ha.lt).trans ha⟩⟩
theorem RowsA.onl {e : TypeId} {w w' : World} {lo hi : Nat} {vs : List Value} {rows : List (List Int)} (h : RowsA e w lo hi vs rows) (o : Onl hi w w') : RowsA e w' lo hi vs rows := h.keep fun b _ hb _ => o.block b (by omega)
theorem RowsA.mono {e : TypeId} {w : World} {lo hi hi' : Nat} {vs : List Value} {rows : List (List Int)} (h : RowsA e w lo hi vs rows) (hh : hi ≤ hi') : RowsA e w lo hi' vs rows :=
  ⟨h.1, fun i v row h1 h2 => by
    obtain ⟨b, e, hl, hb, ha⟩ := h.2 i v row h1 h2
    exact ⟨b, e, hl, by omega, ha⟩⟩
theorem RowsA.snoc {e : TypeId} {w : World} {lo b : Nat} {vs : List Value} {rows : List (List Int)} {row : List Int} (h : RowsA e w lo b vs rows) (hl : lo < b) (ha : Arr w b e (ic row)) : RowsA e w lo (b + 1) (vs ++ [.slice (some ⟨b, 0, none⟩) row.length row.length]) (rows ++ [row]) := by
  refine ⟨by simp [h.1], fun i v r h1 h2 => ?_⟩
  rcases Nat.lt_or_ge i vs.length with q | q
  · rw [List.getElem?_append_left q] at h1
    rw [List.getElem?_append_left (by rw [← h.1]; exact q)] at h2
    exact (h.mono (Nat.le_succ _)).2 i v r h1 h2
  · rw [List.getElem?_append_right q] at h1
    rw [List.getElem?_append_right (by rw [← h.1]; exact q)] at h2
    have hi : i - vs.length = 0 := by
      have := (List.getElem?_eq_some_iff.1 h1).1; simp at this; omega
    rw [hi] at h1
    rw [← h.1, hi] at h2
    simp at h1 h2
    subst h1 h2
    exact ⟨b, rfl, hl, Nat.lt_succ_self _, ha⟩
theorem ic_length (l : List Int) : (ic l).length = l.length := by simp [ic]
theorem Ints.of_ic {w : World} {b : Nat} {t : TypeId} {xs : List Int} (h : Arr w b t (ic xs)) : Ints w (.slice (some ⟨b, 0, none⟩) xs.length xs.length) xs := Ints.of_arr h
theorem RowsA.mat {e t : TypeId} {w : World} {lo hi : Nat} {vs : List Value} {rows : List (List Int)} (h : RowsA e w lo hi vs rows) {R : Nat} (hR : Arr w R t vs) : Mat w (.slice (some ⟨R, 0, none⟩) rows.length rows.length) rows := by
  refine ⟨_, _, rfl, Nat.le_refl _, fun i row hi => ⟨R, 0, rfl, hR.lt, ?_⟩⟩
  have hl : i < vs.length := by rw [h.1]; exact (List.getElem?_eq_some_iff.1 hi).1
  obtain ⟨b, e, _, _, ha⟩ := h.2 i vs[i] row (List.getElem?_eq_getElem hl) hi
  refine ⟨vs[i], ?_, ?_⟩
  · rw [Nat.zero_add, hR.cell, List.getElem?_eq_getElem hl]
  · rw [e]; exact Ints.of_ic ha
end Go.Proofs.Ytcjaloddgilnpaa

namespace Go.Proofs.Ytcjaloddgilnpaa
set_option linter.unusedVariables false

/-- where the test fails, the digit is the quotient's -/
theorem kn_exit {u d y1 y0 q r : Nat} (hinv : q * y1 + r = u) (hub : (u * 4294967296 + d) / (y1 * 4294967296 + y0) ≤ q) (hy : 0 < y1) (ht : q * y0 ≤ 4294967296 * r + d) :
    (u * 4294967296 + d) / (y1 * 4294967296 + y0) = q := by
  apply Nat.le_antisymm hub
  rw [Nat.le_div_iff_mul_le (by omega), Nat.mul_add, ← Nat.mul_assoc]
  subst hinv
  generalize q * y1 = P at *
  generalize q * y0 = T at *
  omega
/-- where the rest has outgrown a digit, it is too -/
theorem kn_break {u d y1 y0 q r : Nat} (hinv : q * y1 + r = u) (hub : (u * 4294967296 + d) / (y1 * 4294967296 + y0) ≤ q) (hy : 0 < y1) (hq : q ≤ 4294967296) (h0 : y0 < 4294967296) (hr : 4294967296 ≤ r) :
    (u * 4294967296 + d) / (y1 * 4294967296 + y0) = q := by
  refine kn_exit hinv hub hy ?_
  have : q * y0 ≤ 4294967296 * 4294967296 := Nat.mul_le_mul hq (by omega)
  omega
/-- where the test holds, the digit is too great -/
theorem kn_more {u d y1 y0 q r : Nat} (hinv : q * y1 + r = u) (hu : u < y1 * 4294967296 + y0) (hd : d < 4294967296) (hy : 0 < y1)
    (ht : 4294967296 ≤ q ∨ 4294967296 * r + d < q * y0) : (u * 4294967296 + d) / (y1 * 4294967296 + y0) < q := by
  rcases ht with ht | ht
  · have hY : 0 < y1 * 4294967296 + y0 := by omega
    have aux : ∀ Y, 0 < Y → u < Y → (u * 4294967296 + d) / Y < 4294967296 := fun Y h1 h2 => (Nat.div_lt_iff_lt_mul h1).2 (by omega)
    exact Nat.lt_of_lt_of_le (aux _ hY hu) ht
  · rw [Nat.div_lt_iff_lt_mul (by omega), Nat.mul_add, ← Nat.mul_assoc]
    subst hinv
    generalize q * y1 = P at *
    generalize q * y0 = T at *
    omega
/-- the first guess -/
theorem kn_start {u d y1 y0 : Nat} (hu : u < y1 * 4294967296 + y0) (hd : d < 4294967296) (hy : 2147483648 ≤ y1) (h0 : y0 < 4294967296) :
    u / y1 * y1 + u % y1 = u ∧ (u * 4294967296 + d) / (y1 * 4294967296 + y0) ≤ u / y1 ∧ u / y1 ≤ 4294967297 := by
  refine ⟨by rw [Nat.mul_comm]; exact Nat.div_add_mod u y1, ?_, ?_⟩
  · have h1 : (u * 4294967296 + d) / (y1 * 4294967296 + y0) ≤ (u * 4294967296 + d) / (y1 * 4294967296) := Nat.div_le_div_left (by omega) (by omega)
    refine Nat.le_trans h1 ?_
    rw [Nat.mul_comm y1, ← Nat.div_div_eq_div_mul]
    rw [show (u * 4294967296 + d) / 4294967296 = u by omega]
    exact Nat.le_refl _
  · refine Nat.le_of_lt_succ ?_
    rw [Nat.div_lt_iff_lt_mul (by omega)]
    omega
/-- a step down keeps the sum -/
theorem kn_down {u y1 q r : Nat} (hinv : q * y1 + r = u) (hq : 0 < q) : (q - 1) * y1 + (r + y1) = u := by
  obtain ⟨q, rfl⟩ : ∃ k, q = k + 1 := ⟨q - 1, by omega⟩
  rw [Nat.add_sub_cancel]
  rw [Nat.succ_mul] at hinv
  omega
/-- the rest of the step, as the machine reckons it -/
theorem kn_rest {u d y1 y0 q : Nat} (hy : 0 < y1) (hY : y1 * 4294967296 + y0 < 18446744073709551616) (h : (u * 4294967296 + d) / (y1 * 4294967296 + y0) = q) :
    ((((u * 4294967296 + d : Nat) : Int) - ((q * (y1 * 4294967296 + y0) : Nat) : Int)) % 18446744073709551616) = (((u * 4294967296 + d) % (y1 * 4294967296 + y0) : Nat) : Int) := by
  have h1 := Nat.div_add_mod (u * 4294967296 + d) (y1 * 4294967296 + y0)
  have h2 := Nat.mod_lt (u * 4294967296 + d) (show 0 < y1 * 4294967296 + y0 by omega)
  rw [h, Nat.mul_comm] at h1
  generalize q * (y1 * 4294967296 + y0) = Q at *
  generalize (u * 4294967296 + d) % (y1 * 4294967296 + y0) = R at *
  omega
/-- two steps make the rest of the whole -/
theorem kn_two (u a b Y : Nat) : ((u * 4294967296 + a) % Y * 4294967296 + b) % Y = (u * 18446744073709551616 + a * 4294967296 + b) % Y := by
  rw [Nat.add_mod, Nat.mul_mod, Nat.mod_mod, ← Nat.mul_mod, ← Nat.add_mod]
  rw [show (u * 4294967296 + a) * 4294967296 + b = u * 18446744073709551616 + a * 4294967296 + b by omega]
/-- shifted numbers leave the shifted rest -/
theorem kn_shift (n y s : Nat) : (n * 2 ^ s) % (y * 2 ^ s) / 2 ^ s = n % y := by
  rw [Nat.mul_mod_mul_right, Nat.mul_div_cancel _ (Nat.two_pow_pos s)]
end Go.Proofs.Ytcjaloddgilnpaa

namespace Go.Proofs
set_option linter.unusedVariables false
open Go.Shelf
def Try.lays134_ren : Go.Shelf.Ren := ⟨fun | 134 => 94 | 129 => 95 | n => n, fun | 53 => 72 | 3 => 3 | 4 => 4 | 46 => 90 | 5 => 5 | 9 => 9 | n => n, fun | n => n⟩
theorem Try.lays134 : Go.Proofs.Lays.n134 Try.prog Try.lays134_ren := {
  mixed := by kernel_rfl
  f129 := Try.func95.trans (congrArg some (by kernel_rfl))
  f134 := Try.func94.trans (congrArg some (by kernel_rfl))
  t3 := Try.underlying3
  a3 := Try.isAgg3
  z3 := Try.sizeOf3
  v3 := Try.zeroValue3
  t4 := Try.underlying4
  a4 := Try.isAgg4
  z4 := Try.sizeOf4
  v4 := Try.zeroValue4
  t5 := Try.underlying5
  a5 := Try.isAgg5
  z5 := Try.sizeOf5
  v5 := Try.zeroValue5
  t9 := Try.underlying9
  a9 := Try.isAgg9
  z9 := Try.sizeOf9
  v9 := Try.zeroValue9
  t46 := Try.underlying90
  a46 := Try.isAgg90
  z46 := Try.sizeOf90
  v46 := Try.zeroValue90
  t53 := Try.underlying72
  a53 := Try.isAgg72
  z53 := Try.sizeOf72
  v53 := Try.zeroValue72 }
/-- bits.LeadingZeros64: "LeadingZeros64 returns the number of leading zero bits in x; the result is 64 for x == 0.": IT RETURNS '64 - Lib.bitLen x'; the world is as it was. ITS CALLEE bits.Len64 IS MET BY ITS OWN CONTRACT OFF THE SHELF (lay that first): entered in place it sends the kernel out of memory. (LAID: no walk: one application.) -/
theorem Try.bits_LeadingZeros64 (x : Int) (w : World) (h0 : 0 ≤ x) (h1 : x ≤ 18446744073709551615) :
    Calls Try.prog 94 #[.int .u64 x] w fun e w' => e = .returned (.int .i64 (64 - (Lib.bitLen x.toNat : Int))) ∧ w' = w := Any.bits_LeadingZeros64 Try.lays134 x w h0 h1
def Try.lays129_ren : Go.Shelf.Ren := ⟨fun | 129 => 95 | n => n, fun | 53 => 72 | 3 => 3 | 4 => 4 | 46 => 90 | 5 => 5 | 9 => 9 | n => n, fun | n => n⟩
theorem Try.lays129 : Go.Proofs.Lays.n129 Try.prog Try.lays129_ren := {
  mixed := by kernel_rfl
  f129 := Try.func95.trans (congrArg some (by kernel_rfl))
  t3 := Try.underlying3
  a3 := Try.isAgg3
  z3 := Try.sizeOf3
  v3 := Try.zeroValue3
  t4 := Try.underlying4
  a4 := Try.isAgg4
  z4 := Try.sizeOf4
  v4 := Try.zeroValue4
  t5 := Try.underlying5
  a5 := Try.isAgg5
  z5 := Try.sizeOf5
  v5 := Try.zeroValue5
  t9 := Try.underlying9
  a9 := Try.isAgg9
  z9 := Try.sizeOf9
  v9 := Try.zeroValue9
  t46 := Try.underlying90
  a46 := Try.isAgg90
  z46 := Try.sizeOf90
  v46 := Try.zeroValue90
  t53 := Try.underlying72
  a53 := Try.isAgg72
  z53 := Try.sizeOf72
  v53 := Try.zeroValue72 }
/-- bits.Len64: "Len64 returns the minimum number of bits required to represent x; the result is 0 for x == 0.": IT RETURNS 'Lib.bitLen x'; the world is as it was. ('h0', 'h1': x is a uint64.) (LAID: no walk: one application.) -/
theorem Try.bits_Len64 (x : Int) (w : World) (h0 : 0 ≤ x) (h1 : x ≤ 18446744073709551615) :
    Calls Try.prog 95 #[.int .u64 x] w fun e w' => e = .returned (.int .i64 (Lib.bitLen x.toNat)) ∧ w' = w := Any.bits_Len64 Try.lays129 x w h0 h1
def Try.lays264_ren : Go.Shelf.Ren := ⟨fun | 264 => 89 | n => n, fun | 53 => 72 | 46 => 90 | n => n, fun | n => n⟩
theorem Try.lays264 : Go.Proofs.Lays.n264 Try.prog Try.lays264_ren := {
  mixed := by kernel_rfl
  f264 := Try.func89.trans (congrArg some (by kernel_rfl))
  t46 := Try.underlying90
  a46 := Try.isAgg90
  z46 := Try.sizeOf90
  v46 := Try.zeroValue90
  t53 := Try.underlying72
  a53 := Try.isAgg72
  z53 := Try.sizeOf72
  v53 := Try.zeroValue72 }
open Go.RowKit Go.Lib in
theorem Try.bits_Mul64 (x y : Nat) (hx : x < 18446744073709551616) (hy : y < 18446744073709551616) (w : World) :
    Calls Try.prog 89 #[.int .u64 x, .int .u64 y] w fun e w' => e = .returned (.tuple #[.int .u64 ((x * y / 18446744073709551616 : Nat) : Int), .int .u64 ((x * y % 18446744073709551616 : Nat) : Int)]) ∧ w' = w := Any.bits_Mul64 Try.lays264 x y hx hy w
def Try.lays111_ren : Go.Shelf.Ren := ⟨fun | 111 => 23 | n => n, fun | 28 => 22 | 3 => 3 | 4 => 4 | 0 => 0 | n => n, fun | n => n⟩
theorem Try.lays111 : Go.Proofs.Lays.n111 Try.prog Try.lays111_ren := {
  mixed := by kernel_rfl
  f111 := Try.func23.trans (congrArg some (by kernel_rfl))
  t0 := Try.underlying0
  a0 := Try.isAgg0
  z0 := Try.sizeOf0
  v0 := Try.zeroValue0
  t3 := Try.underlying3
  a3 := Try.isAgg3
  z3 := Try.sizeOf3
  v3 := Try.zeroValue3
  t4 := Try.underlying4
  a4 := Try.isAgg4
  z4 := Try.sizeOf4
  v4 := Try.zeroValue4
  t28 := Try.underlying22
  a28 := Try.isAgg22
  z28 := Try.sizeOf22
  v28 := Try.zeroValue22 }
open Go.RowKit Go.Lib in
/-- slices.Equal at []int: "Equal reports whether two slices are equal: the same length and all elements equal. If the lengths are different, Equal returns false. Otherwise, the elements are compared in increasing index order, and the comparison stops at the first unequal pair. Empty and nil slices are considered equal.": IT RETURNS WHETHER THE TWO LISTS OF ELEMENTS ARE ONE; the world is as it was but for the count of draws (the test 's1[i] != s2[i]' has two reads, whose order the model draws, once a round). 'xs', 'ys': what the cells behind the two addresses hold (the spare capacity too, if you have it); 'xs.take n', 'ys.take m': the elements. THE TWO SLICES MAY OVERLAP. (LAID: no walk: one application.) -/
theorem Try.slices_Equal_int (b1 o1 n c b2 o2 m d : Nat) (xs ys : List Int) (w : World) (hx : n ≤ xs.length) (hy : m ≤ ys.length) (hbig : n ≤ 9223372036854775807) (hbig2 : m ≤ 9223372036854775807) (hc1 : ∀ j, j < xs.length → w.cell? ⟨b1, o1 + j, none⟩ = some (.int .i64 (xs.getD j 0))) (hc2 : ∀ j, j < ys.length → w.cell? ⟨b2, o2 + j, none⟩ = some (.int .i64 (ys.getD j 0))) :
    Calls Try.prog 23 #[.slice (some ⟨b1, o1, none⟩) n c, .slice (some ⟨b2, o2, none⟩) m d] w fun e w' => e = .returned (.bool (xs.take n == ys.take m)) ∧ ∃ q, w' = w.drewN q := Any.slices_Equal_int Try.lays111 b1 o1 n c b2 o2 m d xs ys w hx hy hbig hbig2 hc1 hc2
open Go.RowKit Go.Lib in
/-- The same where the first is of length 0 (a nil one too): no cell is asked for. (LAID: no walk: one application.) -/
theorem Try.slices_Equal_int_empty (a1 a2 : Option Addr) (c m d : Nat) (w : World) (hbig2 : m ≤ 9223372036854775807) :
    Calls Try.prog 23 #[.slice a1 0 c, .slice a2 m d] w fun e w' => e = .returned (.bool (decide (m = 0))) ∧ w' = w := Any.slices_Equal_int_empty Try.lays111 a1 a2 c m d w hbig2
open Go.RowKit Go.Lib in
theorem Try.slices_Equal_int_lens (a1 a2 : Option Addr) (n c m d : Nat) (w : World) (hnm : n ≠ m) :
    Calls Try.prog 23 #[.slice a1 n c, .slice a2 m d] w fun e w' => e = .returned (.bool false) ∧ w' = w := Any.slices_Equal_int_lens Try.lays111 a1 a2 n c m d w hnm
end Go.Proofs
