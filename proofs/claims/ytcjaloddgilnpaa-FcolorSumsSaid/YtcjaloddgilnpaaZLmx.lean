/- fcolor.Invariants: the walk. -/
/- fcolor.Count: the walk. -/
/- awake: the examples of the chapter. -/
/- FcolorMatrix returns true. -/
import Derived.Test.YtcjaloddgilnpaaZSmi
import Derived.Laws.CopyOwn
import Derived.Test.YtcjaloddgilnpaaZLis
namespace Go.Proofs.Ytcjaloddgilnpaa
open Go.RowKit
set_option linter.unusedVariables false

def rowsOf (S M : List Int) (L : Int) : List (List Int) := matM (arcL M) (colN M L) S.length
theorem rowsOf_length (S M : List Int) (L : Int) : (rowsOf S M L).length = S.length := matM_length _ _ _
theorem rowsOf_mem {S M : List Int} {L : Int} {r : List Int} (h : r ∈ rowsOf S M L) : ∃ c, r = rowM (arcL M) (colN M L) c := by
  unfold rowsOf matM at h
  obtain ⟨c, _, rfl⟩ := List.mem_map.1 h
  exact ⟨c, rfl⟩
theorem rowsOf_cols {S M : List Int} {L : Int} (h : 0 < S.length) : cols (rowsOf S M L) = colN M L := by
  unfold cols rowsOf
  rw [matM_get h]; exact rowM_length _ _ _
theorem rowsOf_len {S M : List Int} {L : Int} : ∀ r ∈ rowsOf S M L, r.length = cols (rowsOf S M L) := by
  intro r hr
  have h0 : 0 < S.length := by
    rcases Nat.eq_zero_or_pos S.length with e | e
    · unfold rowsOf at hr; rw [e] at hr; simp [matM] at hr
    · exact e
  obtain ⟨c, rfl⟩ := rowsOf_mem hr
  rw [rowsOf_cols h0]; exact rowM_length _ _ _
theorem asum_set {r : List Int} {i : Nat} (h : i < r.length) (x : Int) : asum (r.set i x) + r[i].natAbs = asum r + x.natAbs := by
  induction r generalizing i with
  | nil => simp at h
  | cons a r ih =>
    cases i with
    | zero => simp [asum]; omega
    | succ i =>
      have := ih (i := i) (by simpa using h)
      simp only [List.set_cons_succ, List.getElem_cons_succ]
      unfold asum at this ⊢
      simp only [List.map_cons, List.sum_cons]
      omega
theorem asum_addI (r : List Int) (i : Nat) (d : Int) : asum (addI r i d) ≤ asum r + d.natAbs := by
  unfold addI
  rcases Nat.lt_or_ge i r.length with h | h
  · have h1 := asum_set h (gi r i + d)
    have h2 : gi r i = r[i] := by unfold gi; rw [List.getElem?_eq_getElem h]; rfl
    rw [h2] at h1 ⊢
    have h3 : (r[i] + d).natAbs ≤ r[i].natAbs + d.natAbs := Int.natAbs_add_le _ _
    omega
  · rw [List.set_eq_of_length_le h]; omega
theorem asum_zeros (n : Nat) : asum (List.replicate n 0) = 0 := by
  induction n with
  | zero => rfl
  | succ n ih => rw [List.replicate_succ]; unfold asum at ih ⊢; simp only [List.map_cons, List.sum_cons, ih]; rfl
theorem asum_rowM (arc : List Nat) (cols c : Nat) : asum (rowM arc cols c) ≤ 4 := by
  unfold rowM
  have h1 := asum_addI (addI (addI (List.replicate cols 0) (gn arc (4 * c + 1)) 2) (gn arc (4 * c)) (-1)) (gn arc (4 * c + 2)) (-1)
  have h2 := asum_addI (addI (List.replicate cols 0) (gn arc (4 * c + 1)) 2) (gn arc (4 * c)) (-1)
  have h3 := asum_addI (List.replicate cols 0) (gn arc (4 * c + 1)) 2
  rw [asum_zeros] at h3
  have e1 : ((-1 : Int)).natAbs = 1 := rfl
  have e2 : ((2 : Int)).natAbs = 2 := rfl
  omega
theorem rowsOf_sum {S M : List Int} {L : Int} : ∀ r ∈ rowsOf S M L, asum r ≤ 4 := fun r hr => by
  obtain ⟨c, rfl⟩ := rowsOf_mem hr; exact asum_rowM _ _ _
/-- what Smith returns -/
def facL (S M : List Int) (L : Int) : List Nat := facO (smD (cols (rowsOf S M L)) (rowsOf S M L)) (cols (rowsOf S M L)) (rowsOf S M L) (min S.length (cols (rowsOf S M L)))
theorem facD_length (m C : Nat) (rows : List (List Int)) (d : Nat) : (facD m C rows d).length = d := by unfold facD; rw [chI_length, dgP_length]
theorem facL_length (S M : List Int) (L : Int) : (facL S M L).length = min S.length (cols (rowsOf S M L)) := by unfold facL facO; rw [outP_length, facD_length]
/-- what Invariants returns -/
def invL (S M : List Int) (L : Int) : List Nat := (List.range (colN M L)).map (gn (facL S M L))
theorem invL_length (S M : List Int) (L : Int) : (invL S M L).length = colN M L := by simp [invL]
theorem cols_le {S M : List Int} {L : Int} : cols (rowsOf S M L) ≤ colN M L := by
  rcases Nat.eq_zero_or_pos S.length with e | e
  · unfold rowsOf; rw [e]; simp [matM, cols]
  · rw [rowsOf_cols e]; exact Nat.le_refl _
theorem splice_inv (S M : List Int) (L : Int) : splice (List.replicate (colN M L) (Value.int .i64 0)) 0 (nc (facL S M L)) = nc (invL S M L) := by
  have hl : (facL S M L).length ≤ colN M L := by rw [facL_length]; exact Nat.le_trans (Nat.min_le_right _ _) cols_le
  unfold splice
  apply List.ext_getElem?
  intro i
  simp only [List.take_zero, List.nil_append, Nat.zero_add]
  have hn : (nc (facL S M L)).length = (facL S M L).length := by simp [nc]
  rcases Nat.lt_or_ge i (facL S M L).length with q | q
  · rw [List.getElem?_append_left (by rw [hn]; exact q), nc_get q, nc_get (by rw [invL_length]; omega)]
    unfold invL; rw [gn_map_range, if_pos (by omega)]
  · rw [List.getElem?_append_right (by rw [hn]; exact q), List.getElem?_drop, List.getElem?_replicate, hn]
    rcases Nat.lt_or_ge i (colN M L) with q2 | q2
    · rw [if_pos (by omega), nc_get (by rw [invL_length]; exact q2)]
      unfold invL; rw [gn_map_range, if_pos q2, gn_out q]; rfl
    · rw [if_neg (by omega), List.getElem?_eq_none (by simp [nc, invL_length]; exact q2)]
theorem nc_one (l : List Nat) : ∀ v ∈ nc l, v.oneCell' = true := by
  intro v hv; obtain ⟨k, _, rfl⟩ := List.mem_map.1 hv; rfl
theorem colN_small {S M : List Int} {L : Int} (k : Ok S M L) (hn : S.length ≤ 14) (hL : L ≤ 4) : colN M L ≤ 60 := by
  unfold colN
  have := rk_le (labA M M.length M.length) M.length
  have := k.m; have := k.l0
  omega

set_option maxHeartbeats 1000000 in
theorem Inv_no (vs vm : Value) (S M : List Int) (L : Int) (w : World) (hS : Ints w vs S) (hM : Ints w vm M) (hv : valB S M L = false) :
    Calls Try.prog 21 #[.agg #[vs, vm, .int .i64 L]] w fun e w' => e = .returned (.tuple #[.slice none 0 0, .int .i64 1]) ∧ Below w.heap.size w w' := by
  have hW : Arr (w.alloc (.cells #[vs, vm, .int .i64 L] 24)) w.heap.size 24 [vs, vm, .int .i64 L] ∧ Below w.heap.size w (w.alloc (.cells #[vs, vm, .int .i64 L] 24)) := ⟨Arr.new w _ _, (Below.refl _ _).alloc (Nat.le_refl _) _⟩
  have HC := Lib.hid (fun W (hb : Below w.heap.size w W) => Matrix_no vs vm S M L W (hS.below hb) (hM.below hb) hv)
  clear hv
  obtain ⟨A, c, rfl, hc, hx⟩ := hS
  obtain ⟨A2, c2, rfl, hc2, hx2⟩ := hM
  clear hx hx2
  go_enter Try.func21, Try.ntmps21
  go_upto_region 1 with fail
  generalize (w.alloc (.cells #[.slice A S.length c, .slice A2 M.length c2, .int .i64 L] 24)) = w4 at hW ⊢
  obtain ⟨q0, hb4⟩ := hW
  have y0 := q0.cell 0
  have y1 := q0.cell 1
  have y2 := q0.cell 2
  go_wp2_with (go_at_call 11; refine (HC.out _ hb4).mono ?_; rintro e w5 ⟨rfl, hb5⟩)
  go_ret2
  exact ⟨rfl, hb4.trans (hb5.mono hb4.size)⟩
set_option maxHeartbeats 1000000 in
theorem Inv_full (vs vm : Value) (S M : List Int) (L : Int) (w : World) (hS : Ints w vs S) (hM : Ints w vm M) (hv : valB S M L = true) (hf : 14 < S.length ∨ 4 < L) :
    Calls Try.prog 21 #[.agg #[vs, vm, .int .i64 L]] w fun e w' => e = .returned (.tuple #[.slice none 0 0, .int .i64 5]) ∧ Below w.heap.size w w' := by
  have hW : Arr (w.alloc (.cells #[vs, vm, .int .i64 L] 24)) w.heap.size 24 [vs, vm, .int .i64 L] ∧ Below w.heap.size w (w.alloc (.cells #[vs, vm, .int .i64 L] 24)) := ⟨Arr.new w _ _, (Below.refl _ _).alloc (Nat.le_refl _) _⟩
  have HC := Lib.hid (fun W (hb : Below w.heap.size w W) => Matrix_yes vs vm S M L W (hS.below hb) (hM.below hb) hv)
  have hsl : S.length ≤ 64 := (valB_ok hv).n
  clear hv
  obtain ⟨A, c, rfl, hc, hx⟩ := hS
  obtain ⟨A2, c2, rfl, hc2, hx2⟩ := hM
  clear hx hx2
  go_enter Try.func21, Try.ntmps21
  go_upto_region 1 with fail
  generalize (w.alloc (.cells #[.slice A S.length c, .slice A2 M.length c2, .int .i64 L] 24)) = w4 at hW ⊢
  obtain ⟨q0, hb4⟩ := hW
  have y0 := q0.cell 0
  have y1 := q0.cell 1
  have y2 := q0.cell 2
  go_upto_region 4 with (go_at_call 11; refine (HC.out _ hb4).mono ?_; rintro e w5 ⟨v, rfl, hv5, hb5⟩)
  have q5 := q0.below hb5 q0.lt
  clear y0 y1 y2
  have y0 := q5.cell 0
  have y2 := q5.cell 2
  by_cases h14 : 14 < S.length
  · have z1 : (14 : Int) < (S.length : Int) := by omega
    go_wp2_with fail
    go_ret2
    exact ⟨rfl, hb4.trans (hb5.mono hb4.size)⟩
  · have z1 : ¬ ((14 : Int) < (S.length : Int)) := by omega
    have z2 : 4 < L := by omega
    go_wp2_with fail
    go_ret2
    exact ⟨rfl, hb4.trans (hb5.mono hb4.size)⟩
set_option maxHeartbeats 2000000 in
theorem Inv_yes (vs vm : Value) (S M : List Int) (L : Int) (w : World) (hS : Ints w vs S) (hM : Ints w vm M) (hv : valB S M L = true) (hn : S.length ≤ 14) (hL : L ≤ 4) :
    Calls Try.prog 21 #[.agg #[vs, vm, .int .i64 L]] w fun e w' => ∃ g, e = .returned (.tuple #[.slice (some ⟨g, 0, none⟩) (colN M L) (colN M L), .int .i64 0]) ∧ w.heap.size ≤ g ∧ Arr w' g 3 (nc (invL S M L)) ∧ Below w.heap.size w w' := by
  obtain ⟨i2, hi2, hx0, hx1, hx2⟩ := info_parts intInfo
  have hcs := colN_small (valB_ok hv) hn hL
  have hcl := cols_le (S := S) (M := M) (L := L)
  have HMI := Lib.hid (run_make_one (P := Try.prog) 22 3 i2 (.int .i64 0) Try.underlying22 hi2 hx0 hx1 rfl (by omega) (colN M L) (by omega))
  have hW : Arr (w.alloc (.cells #[vs, vm, .int .i64 L] 24)) w.heap.size 24 [vs, vm, .int .i64 L] ∧ Below w.heap.size w (w.alloc (.cells #[vs, vm, .int .i64 L] 24)) := ⟨Arr.new w _ _, (Below.refl _ _).alloc (Nat.le_refl _) _⟩
  have HC := Lib.hid (fun W (hb : Below w.heap.size w W) => Matrix_yes vs vm S M L W (hS.below hb) (hM.below hb) hv)
  have HA := Lib.hid (fun W (hb : Below w.heap.size w W) => Arcs_yes vs vm S M L W (hS.below hb) (hM.below hb) hv)
  have HSM := Lib.hid (fun v W (hm : Mat W v (rowsOf S M L)) => Smith_any v (rowsOf S M L) (cols (rowsOf S M L)) W hm (by rw [rowsOf_length]; omega) (by omega) rfl rowsOf_len rowsOf_sum)
  rw [rowsOf_length] at HSM
  have HSM2 := Lib.hid (fun v W (hm : Mat W v (matM (arcL M) (colN M L) S.length)) => show Calls Try.prog 42 #[v] W fun e w' => ∃ g, e = .returned (.tuple #[.slice (some ⟨g, 0, none⟩) (min S.length (cols (rowsOf S M L))) (min S.length (cols (rowsOf S M L))), .int .i64 0]) ∧ W.heap.size ≤ g ∧ Arr w' g 3 (nc (facL S M L)) ∧ Below W.heap.size W w' from HSM.out v W hm)
  have HFL := Lib.hid (facL_length S M L)
  have HSP := Lib.hid (splice_inv S M L)
  generalize facL S M L = F at *
  generalize hd : min S.length (cols (rowsOf S M L)) = d at *
  have hdC : d ≤ colN M L := by omega
  generalize invL S M L = I at *
  obtain ⟨K, hK⟩ : ∃ K, K = colN M L := ⟨_, rfl⟩
  rw [← hK] at HC HA HSM2 HMI HSP hcs hdC ⊢
  clear hv HSM hd hcl hK
  obtain ⟨A, c, rfl, hc, hx⟩ := hS
  obtain ⟨A2, c2, rfl, hc2, hx2⟩ := hM
  clear hx hx2
  go_enter Try.func21, Try.ntmps21
  go_upto_region 1 with fail
  generalize (w.alloc (.cells #[.slice A S.length c, .slice A2 M.length c2, .int .i64 L] 24)) = w4 at hW ⊢
  obtain ⟨q0, hb4⟩ := hW
  have y0 := q0.cell 0
  have y1 := q0.cell 1
  have y2 := q0.cell 2
  go_upto_region 4 with (go_at_call 11; refine (HC.out _ hb4).mono ?_; rintro e w5 ⟨v, rfl, hv5, hb5⟩)
  have q5 := q0.below hb5 q0.lt
  have hb5' := hb4.trans (hb5.mono hb4.size)
  clear y0 y1 y2
  have y0 := q5.cell 0
  have y1 := q5.cell 1
  have y2 := q5.cell 2
  have z1 : ¬ ((14 : Int) < (S.length : Int)) := by omega
  have z2 : ¬ (4 < L) := by omega
  have HV5 := Lib.hid hv5
  clear hv5
  go_upto_region 9 with (go_at_call 33; refine (HA.out _ hb5').mono ?_; rintro e w6 ⟨g6, rfl, hg6, ha6, hb6⟩)
  have HS6 := Lib.hid (HSM2.out v w6 (HV5.out.below hb6))
  have hb6' := hb5'.trans (hb6.mono hb5'.size)
  clear y0 y1 y2 ha6 q0 q5
  have hmk := HMI.out
  go_upto_region 12 with (go_at_call 42; refine HS6.out.mono ?_; rintro e w7 ⟨g7, rfl, hg7, ha7, hb7⟩)
  have hb7' := hb6'.trans (hb7.mono hb6'.size)
  have lg := ha7.lt
  have hW8 : ∀ W, W = w7.alloc (.cells (rowOf (List.replicate (K) (Value.int .i64 0))) 3) → Arr W w7.heap.size 3 (List.replicate (K) (Value.int .i64 0)) ∧ Arr W g7 3 (nc F) ∧ Below w.heap.size w W := by
    intro W hW; subst hW; exact ⟨Arr.new w7 _ _, ha7.alloc _, hb7'.alloc hb7'.size _⟩
  go_upto_region 13 with fail
  generalize w7.alloc (.cells (rowOf (List.replicate (K) (Value.int .i64 0))) 3) = w8 at hW8 ⊢
  obtain ⟨a8, f8, b8⟩ := hW8 w8 rfl
  have HLG := Lib.hid (show w.heap.size ≤ w7.heap.size from hb7'.size)
  generalize w7.heap.size = g8 at *
  have hsz : (Try.prog.info? 3).map (·.size) = some 1 := by rw [hi2]; simp [hx1]
  clear hmk ha7 hb7 hb7' hW8
  have h8 : w8.heap[g8]? = some (.cells (List.replicate (K) (Value.int .i64 0)).toArray 3 (0, 0)) := a8
  have hF : (nc F).length = d := by rw [← HFL.out]; simp [nc]
  have hpos : 0 < (nc F).length → some (⟨g8, 0, none⟩ : Addr) = some ⟨g8, 0, none⟩ ∧ ∃ ad, some (⟨g7, 0, none⟩ : Addr) = some ad ∧ ∀ j v, (nc F)[j]? = some v → w8.cell? (ad.add j) = some v := fun _ => ⟨rfl, _, rfl, fun j v hj => by
    have : (⟨g7, 0, none⟩ : Addr).add j = ⟨g7, j, none⟩ := by unfold Addr.add; split <;> simp_all
    rw [this, f8.cell]; exact hj⟩
  have H8 := Lib.hid h8
  have HF := Lib.hid (show (nc F).length = Nat.min d (K) by rw [hF]; exact (Nat.min_eq_left hdC).symm)
  have HPO := Lib.hid hpos
  have HFI := Lib.hid (show 0 + (nc F).length ≤ (List.replicate (K) (Value.int .i64 0)).length by rw [hF]; simp; exact hdC)
  have HSZ := Lib.hid hsz
  have HN1 := Lib.hid (nc_one F)
  clear h8 hF hpos hsz hi2 hx0 hx1 hx2
  go_wp2_with (refine wpList_copy_splice rfl (.tmp 46) (.tmp 47) 22 22 rfl 3 Try.underlying22 HSZ.out (some ⟨g8, 0, none⟩) (some ⟨g7, 0, none⟩) K K d d (by rfl) (by rfl) g8 0 (List.replicate K (Value.int .i64 0)) 3 H8.out (nc F) HF.out HPO.out HFI.out HN1.out w.heap.size w b8 HLG.out ?_; intro w9 hg9 hb9)
  go_ret2
  exact ⟨g8, rfl, HLG.out, by unfold Arr rowOf; rw [← HSP.out]; exact hg9.out, hb9⟩
end Go.Proofs.Ytcjaloddgilnpaa

namespace Go.Proofs.Ytcjaloddgilnpaa
open Go.RowKit
set_option linter.unusedVariables false

theorem outP_le {m : Nat} {D : List Nat} (h : Dvs m D) (hm : 0 < m) (x j : Nat) : gn (outP m D x) j ≤ m := by
  rcases Nat.lt_or_ge j D.length with q | q
  · rw [gn_outP q]; split
    · exact Nat.le_of_dvd hm (h j q)
    · omega
  · rw [gn_out (by rw [outP_length]; exact q)]; omega
theorem facD_dvs (m C : Nat) (rows : List (List Int)) (d : Nat) : Dvs m (facD m C rows d) := (dgP_dvs m C _ d).chI (dgP_length _ _ _ _ _) d (Nat.le_refl _)
theorem invL_le (S M : List Int) (L : Int) (j : Nat) : gn (invL S M L) j ≤ 2305843009213693950 := by
  unfold invL
  rw [gn_map_range]
  split
  · obtain ⟨h1, h2⟩ := smD_bd (C := cols (rowsOf S M L)) (rows := rowsOf S M L) rowsOf_len
    exact Nat.le_trans (outP_le (facD_dvs _ _ _ _) h1 _ _) h2
  · omega
/-- the product of the greatest common divisors, if it is not too great -/
def cntP (l : List Nat) (m : Nat) : Nat → Option Nat
  | 0 => some 1
  | x + 1 => match cntP l m x with
    | none => none
    | some a => if 1125899906842624 / Nat.gcd (gn l x) m < a then none else some (a * Nat.gcd (gn l x) m)
theorem cntP_none {l : List Nat} {m x : Nat} (h : cntP l m x = none) : ∀ y, x ≤ y → cntP l m y = none := by
  intro y hy
  induction y with
  | zero => obtain rfl : x = 0 := by omega
            exact h
  | succ y ih =>
    by_cases e : x = y + 1
    · rw [← e]; exact h
    · rw [cntP, ih (by omega)]
theorem cntP_step {l : List Nat} {m x a : Nat} (h : cntP l m x = some a) : cntP l m (x + 1) = if 1125899906842624 / Nat.gcd (gn l x) m < a then none else some (a * Nat.gcd (gn l x) m) := by rw [cntP, h]
theorem cntP_bd {l : List Nat} {m : Nat} (hm : 0 < m) : ∀ {x a : Nat}, cntP l m x = some a → 1 ≤ a ∧ a ≤ 1125899906842624
  | 0, a, h => by injection h with h; omega
  | x + 1, a, h => by
    cases hx : cntP l m x with
    | none => rw [cntP, hx] at h; cases h
    | some b =>
      rw [cntP_step hx] at h
      obtain ⟨h1, h2⟩ := cntP_bd hm hx
      have hg : 0 < Nat.gcd (gn l x) m := Nat.gcd_pos_of_pos_right _ hm
      split at h
      · cases h
      · next q =>
        injection h with h
        subst h
        refine ⟨Nat.mul_pos h1 hg, ?_⟩
        have := Nat.mul_le_of_le_div _ _ _ (Nat.le_of_not_lt q)
        exact this

set_option maxHeartbeats 1000000 in
theorem Count_arg (vs vm : Value) (S M : List Int) (L md : Int) (w : World) (hS : Ints w vs S) (hM : Ints w vm M) (hv : valB S M L = false) :
    Calls Try.prog 16 #[.agg #[vs, vm, .int .i64 L], .int .i64 md] w fun e w' => e = .returned (.tuple #[.int .i64 0, .int .i64 1]) ∧ Below w.heap.size w w' := by
  have hW : Arr (w.alloc (.cells #[vs, vm, .int .i64 L] 24)) w.heap.size 24 [vs, vm, .int .i64 L] ∧ Below w.heap.size w (w.alloc (.cells #[vs, vm, .int .i64 L] 24)) := ⟨Arr.new w _ _, (Below.refl _ _).alloc (Nat.le_refl _) _⟩
  have HC := Lib.hid (fun W (hb : Below w.heap.size w W) => valid_code vs vm S M L W (hS.below hb) (hM.below hb))
  rw [hv] at HC
  clear hv
  obtain ⟨A, c, rfl, hc, hx⟩ := hS
  obtain ⟨A2, c2, rfl, hc2, hx2⟩ := hM
  clear hx hx2
  go_enter Try.func16, Try.ntmps16
  go_upto_region 1 with fail
  generalize (w.alloc (.cells #[.slice A S.length c, .slice A2 M.length c2, .int .i64 L] 24)) = w4 at hW ⊢
  obtain ⟨q0, hb4⟩ := hW
  have y0 := q0.cell 0
  have y1 := q0.cell 1
  have y2 := q0.cell 2
  go_wp2_with (go_at_call 38; refine (HC.out _ hb4).mono ?_; rintro e w5 ⟨rfl, hb5⟩)
  go_ret2
  exact ⟨rfl, hb4.trans (hb5.mono hb4.size)⟩
set_option maxHeartbeats 1000000 in
theorem Count_range (vs vm : Value) (S M : List Int) (L md : Int) (w : World) (hS : Ints w vs S) (hM : Ints w vm M) (hv : valB S M L = true) (hr : md < 1 ∨ 1000 < md) :
    Calls Try.prog 16 #[.agg #[vs, vm, .int .i64 L], .int .i64 md] w fun e w' => e = .returned (.tuple #[.int .i64 0, .int .i64 2]) ∧ Below w.heap.size w w' := by
  have hW : Arr (w.alloc (.cells #[vs, vm, .int .i64 L] 24)) w.heap.size 24 [vs, vm, .int .i64 L] ∧ Below w.heap.size w (w.alloc (.cells #[vs, vm, .int .i64 L] 24)) := ⟨Arr.new w _ _, (Below.refl _ _).alloc (Nat.le_refl _) _⟩
  have HC := Lib.hid (fun W (hb : Below w.heap.size w W) => valid_code vs vm S M L W (hS.below hb) (hM.below hb))
  rw [hv] at HC
  clear hv
  obtain ⟨A, c, rfl, hc, hx⟩ := hS
  obtain ⟨A2, c2, rfl, hc2, hx2⟩ := hM
  clear hx hx2
  by_cases h1 : md < 1
  · go_enter Try.func16, Try.ntmps16
    go_upto_region 1 with fail
    generalize (w.alloc (.cells #[.slice A S.length c, .slice A2 M.length c2, .int .i64 L] 24)) = w4 at hW ⊢
    obtain ⟨q0, hb4⟩ := hW
    have y0 := q0.cell 0
    have y1 := q0.cell 1
    have y2 := q0.cell 2
    go_wp2_with (go_at_call 38; refine (HC.out _ hb4).mono ?_; rintro e w5 ⟨rfl, hb5⟩)
    go_ret2
    exact ⟨rfl, hb4.trans (hb5.mono hb4.size)⟩
  · have h2 : 1000 < md := by omega
    have h1' : ¬ (md < 1) := h1
    clear hr
    go_enter Try.func16, Try.ntmps16
    go_upto_region 1 with fail
    generalize (w.alloc (.cells #[.slice A S.length c, .slice A2 M.length c2, .int .i64 L] 24)) = w4 at hW ⊢
    obtain ⟨q0, hb4⟩ := hW
    have y0 := q0.cell 0
    have y1 := q0.cell 1
    have y2 := q0.cell 2
    go_wp2_with (go_at_call 38; refine (HC.out _ hb4).mono ?_; rintro e w5 ⟨rfl, hb5⟩)
    go_ret2
    exact ⟨rfl, hb4.trans (hb5.mono hb4.size)⟩
set_option maxHeartbeats 1000000 in
theorem Count_full (vs vm : Value) (S M : List Int) (L : Int) (md : Nat) (w : World) (hS : Ints w vs S) (hM : Ints w vm M) (hv : valB S M L = true) (h1 : 1 ≤ md) (h2 : md ≤ 1000) (hf : 14 < S.length ∨ 4 < L) :
    Calls Try.prog 16 #[.agg #[vs, vm, .int .i64 L], .int .i64 (md : Nat)] w fun e w' => e = .returned (.tuple #[.int .i64 0, .int .i64 5]) ∧ Below w.heap.size w w' := by
  have hW : Arr (w.alloc (.cells #[vs, vm, .int .i64 L] 24)) w.heap.size 24 [vs, vm, .int .i64 L] ∧ Below w.heap.size w (w.alloc (.cells #[vs, vm, .int .i64 L] 24)) := ⟨Arr.new w _ _, (Below.refl _ _).alloc (Nat.le_refl _) _⟩
  have HC := Lib.hid (fun W (hb : Below w.heap.size w W) => valid_code vs vm S M L W (hS.below hb) (hM.below hb))
  have HI := Lib.hid (fun W (hb : Below w.heap.size w W) => Inv_full vs vm S M L W (hS.below hb) (hM.below hb) hv hf)
  rw [hv] at HC
  have z1 : ¬ ((md : Int) < 1) := by omega
  have z2 : ¬ ((1000 : Int) < (md : Int)) := by omega
  clear hv hf
  obtain ⟨A, c, rfl, hc, hx⟩ := hS
  obtain ⟨A2, c2, rfl, hc2, hx2⟩ := hM
  clear hx hx2
  go_enter Try.func16, Try.ntmps16
  go_upto_region 1 with fail
  generalize (w.alloc (.cells #[.slice A S.length c, .slice A2 M.length c2, .int .i64 L] 24)) = w4 at hW ⊢
  obtain ⟨q0, hb4⟩ := hW
  have y0 := q0.cell 0
  have y1 := q0.cell 1
  have y2 := q0.cell 2
  go_upto_region 5 with (go_at_call 38; refine (HC.out _ hb4).mono ?_; rintro e w5 ⟨rfl, hb5⟩)
  have q5 := q0.below hb5 q0.lt
  have hb5' := hb4.trans (hb5.mono hb4.size)
  clear y0 y1 y2
  have y0 := q5.cell 0
  have y1 := q5.cell 1
  have y2 := q5.cell 2
  go_wp2_with (go_at_call 21; refine (HI.out _ hb5').mono ?_; rintro e w6 ⟨rfl, hb6⟩)
  go_ret2
  exact ⟨rfl, hb5'.trans (hb6.mono hb5'.size)⟩
/-- what Count returns -/
def cntE (r : Option Nat) (e : Ending) : Prop := match r with
  | some a => e = .returned (.tuple #[.int .i64 (a : Nat), .int .i64 0])
  | none => e = .returned (.tuple #[.int .i64 0, .int .i64 9])
set_option maxHeartbeats 2000000 in
theorem Count_yes (vs vm : Value) (S M : List Int) (L : Int) (md : Nat) (w : World) (hS : Ints w vs S) (hM : Ints w vm M) (hv : valB S M L = true) (h1 : 1 ≤ md) (h2 : md ≤ 1000) (hn : S.length ≤ 14) (hL : L ≤ 4) :
    Calls Try.prog 16 #[.agg #[vs, vm, .int .i64 L], .int .i64 (md : Nat)] w fun e w' => cntE (cntP (invL S M L) md (colN M L)) e ∧ Below w.heap.size w w' := by
  have hW : Arr (w.alloc (.cells #[vs, vm, .int .i64 L] 24)) w.heap.size 24 [vs, vm, .int .i64 L] ∧ Below w.heap.size w (w.alloc (.cells #[vs, vm, .int .i64 L] 24)) := ⟨Arr.new w _ _, (Below.refl _ _).alloc (Nat.le_refl _) _⟩
  have HC := Lib.hid (fun W (hb : Below w.heap.size w W) => valid_code vs vm S M L W (hS.below hb) (hM.below hb))
  have HI := Lib.hid (fun W (hb : Below w.heap.size w W) => Inv_yes vs vm S M L W (hS.below hb) (hM.below hb) hv hn hL)
  rw [hv] at HC
  have z1 : ¬ ((md : Int) < 1) := by omega
  have z2 : ¬ ((1000 : Int) < (md : Int)) := by omega
  have hcs := colN_small (valB_ok hv) hn hL
  have HLE := Lib.hid (invL_le S M L)
  have HIL := Lib.hid (invL_length S M L)
  obtain ⟨I, hI⟩ : ∃ I, I = invL S M L := ⟨_, rfl⟩
  obtain ⟨K, hK⟩ : ∃ K, K = colN M L := ⟨_, rfl⟩
  rw [← hI, ← hK] at HI HIL ⊢
  rw [← hI] at HLE
  rw [← hK] at hcs
  clear hv hI hK
  obtain ⟨A, c, rfl, hc, hx⟩ := hS
  obtain ⟨A2, c2, rfl, hc2, hx2⟩ := hM
  clear hx hx2
  go_enter Try.func16, Try.ntmps16
  go_upto_region 1 with fail
  generalize (w.alloc (.cells #[.slice A S.length c, .slice A2 M.length c2, .int .i64 L] 24)) = w4 at hW ⊢
  obtain ⟨q0, hb4⟩ := hW
  have y0 := q0.cell 0
  have y1 := q0.cell 1
  have y2 := q0.cell 2
  go_upto_region 5 with (go_at_call 38; refine (HC.out _ hb4).mono ?_; rintro e w5 ⟨rfl, hb5⟩)
  have q5 := q0.below hb5 q0.lt
  have hb5' := hb4.trans (hb5.mono hb4.size)
  clear y0 y1 y2
  have y0 := q5.cell 0
  have y1 := q5.cell 1
  have y2 := q5.cell 2
  go_upto_region 8 with (go_at_call 21; refine (HI.out _ hb5').mono ?_; rintro e w6 ⟨g, rfl, hg, ha, hb6⟩)
  have hb6' := hb5'.trans (hb6.mono hb5'.size)
  clear y0 y1 y2 q0 q5 hb4 hb5 hb5' hb6
  go_wp2_with fail
  go_loopg [8, 10, 11, 31] K (fun gk s8 s10 s11 s31 wr => ∃ x a n : Nat, x ≤ K ∧ gk = K - x ∧ s31 = .int .i64 (x : Int) ∧ s8 = .int .i64 (a : Int) ∧ Hid (cntP I md x = some a) ∧ wr = w6.drewN n)
  case atStart => exact ⟨0, 1, 0, Nat.zero_le _, rfl, rfl, rfl, Lib.hid rfl, rfl⟩
  case round =>
    obtain ⟨x, a, n, hx, rfl, rfl, rfl, HP, rfl⟩ := hrel
    have hab := cntP_bd h1 HP.out
    by_cases hxt : x < K
    · have z3 : (x : Int) < (K : Int) := by omega
      have c1 : (w6.drewN n).cell? ⟨g, x, none⟩ = some (.int .i64 (gn I x : Nat)) := (ha.cell x).trans (nc_get (by rw [HIL.out]; exact hxt))
      have hle := HLE.out x
      have HG := Lib.hid (fun W => gcdI_any (gn I x) md W (by omega) (by omega))
      have HST := Lib.hid (cntP_step HP.out)
      have hg0 : 0 < Nat.gcd (gn I x) md := Nat.gcd_pos_of_pos_right _ h1
      have hg1 : Nat.gcd (gn I x) md ≤ 1000 := Nat.le_trans (Nat.le_of_dvd h1 (Nat.gcd_dvd_right _ _)) h2
      have e1 : (1125899906842624 : Int) / (Nat.gcd (gn I x) md : Int) = ((1125899906842624 / Nat.gcd (gn I x) md : Nat) : Int) := by simp
      generalize Nat.gcd (gn I x) md = gv at *
      generalize gn I x = vx at *
      have z4 : ((gv : Int) == 0) = false := by simp; omega
      have z5 : (gv : Int) ≠ 0 := by omega
      have hagb : a * gv ≤ 1125899906842624 * 1000 := Nat.mul_le_mul hab.2 hg1
      have e2 : (a : Int) * (gv : Int) = ((a * gv : Nat) : Int) := by simp
      generalize 1125899906842624 / gv = qv at *
      obtain ⟨ag, hag⟩ : ∃ k, k = a * gv := ⟨_, rfl⟩
      rw [← hag] at e2 hagb HST
      clear hag HP
      by_cases hbig : qv < a
      · have z6 : (qv : Int) < (a : Int) := by omega
        rw [if_pos hbig] at HST
        have HN := Lib.hid (cntP_none HST.out K (by omega))
        clear hbig
        go_wp2_with (go_at_call 39; (with_reducible refine (HG.out _).mono ?_); rintro e w' ⟨q, rfl, rfl⟩)
        go_ret2
        refine ⟨?_, bdrewN hb6' _⟩
        rw [HN.out]; rfl
      · have z6 : ¬ ((qv : Int) < (a : Int)) := by omega
        rw [if_neg hbig] at HST
        clear hbig
        go_wp2_with (go_at_call 39; (with_reducible refine (HG.out _).mono ?_); rintro e w' ⟨q, rfl, rfl⟩)
        go_roundg (K - (x + 1))
        case measure => omega
        case rel => exact ⟨x + 1, ag, _, by omega, rfl, by go_num, rfl, HST, rfl⟩
    · have z3 : ¬ ((x : Int) < (K : Int)) := by omega
      have hxn : x = K := by omega
      have HN := Lib.hid (show cntP I md K = some a by rw [← hxn]; exact HP.out)
      clear hxn HP
      go_wp2_with fail
      go_ret2
      refine ⟨?_, bdrewN hb6' _⟩
      rw [HN.out]; rfl
end Go.Proofs.Ytcjaloddgilnpaa

namespace Go.Proofs.Ytcjaloddgilnpaa
open Go.RowKit
set_option linter.unusedVariables false

def tS : List Int := [1, 1, 1]
def tM : List Int := [9, 4, 7, 10, 1, 8, 11, 2, 5, 0, 3, 6]
theorem tref_valid : valB tS tM 0 = true := by decide +kernel
theorem tref_cols : colN tM 0 = 3 := by decide +kernel
theorem tref_inv : invL tS tM 0 = [1, 3, 0] := by decide +kernel
theorem tref_three : cntP (invL tS tM 0) 3 (colN tM 0) = some 9 := by decide +kernel
theorem tref_five : cntP (invL tS tM 0) 5 (colN tM 0) = some 5 := by decide +kernel
theorem Ints.litA (w : World) (t : TypeId) (xs : List Int) (cs : Array Value) (k n : Nat) (hk : k = w.heap.size) (hn : n = xs.length) (hc : cs = rowOf (xs.map (Value.int .i64))) : Ints (w.alloc (.cells cs t)) (.slice (some ⟨k, 0, none⟩) n n) xs := by
  subst hk hn hc
  exact Ints.of_arr (Arr.new w t (xs.map (Value.int .i64)))
set_option maxHeartbeats 1000000 in
theorem trefoil_any (w : World) : Calls Try.prog 32 #[] w fun e w' => ∃ vs vm, e = .returned (.agg #[vs, vm, .int .i64 0]) ∧ Ints w' vs tS ∧ Ints w' vm tM ∧ Below w.heap.size w w' := by
  go_enter Try.func32, Try.ntmps32
  go_wp2_with fail
  refine bodyPost_ret (v := .agg (rowOf [.slice (some ⟨w.heap.size + 1, 0, none⟩) 3 3, .slice (some ⟨w.heap.size + 1 + 1, 0, none⟩) 12 12, .int .i64 0])) ?_ rfl ?_
  · refine results_c (fn := Try.f32) (by rfl) _ _ w.heap.size 24 [.slice (some ⟨w.heap.size + 1, 0, none⟩) 3 3, .slice (some ⟨w.heap.size + 1 + 1, 0, none⟩) 12 12, .int .i64 0] _ (by rfl) ?_ Try.underlying24 (by rfl) (by kernel_rfl)
    exact ((Arr.new w 24 [_, _, _]).alloc _).alloc _
  · refine ⟨_, _, rfl, ?_, ?_, ?_⟩
    · exact (Ints.litA (w.alloc _) 3 tS _ _ _ (by simp) rfl rfl).alloc _
    · exact Ints.litA ((w.alloc _).alloc _) 3 tM _ _ _ (by simp) rfl rfl
    · exact (((Below.refl _ _).alloc (Nat.le_refl _) _).alloc (by simp) _).alloc (by simp <;> omega) _
theorem tref_list : nc (invL tS tM 0) = [.int .i64 1, .int .i64 3, .int .i64 0] := by rw [tref_inv]; rfl
set_option maxHeartbeats 2000000 in
theorem awake_any (w : World) : Calls Try.prog 10 #[] w fun e w' => e = .returned (.bool true) ∧ Below w.heap.size w w' := by
  have HT := Lib.hid trefoil_any
  have HC3 := Lib.hid (fun vs vm W (h1 : Ints W vs tS) (h2 : Ints W vm tM) => Count_yes vs vm tS tM 0 3 W h1 h2 tref_valid (by omega) (by omega) (by decide) (by decide))
  have HC5 := Lib.hid (fun vs vm W (h1 : Ints W vs tS) (h2 : Ints W vm tM) => Count_yes vs vm tS tM 0 5 W h1 h2 tref_valid (by omega) (by omega) (by decide) (by decide))
  have HI := Lib.hid (fun vs vm W (h1 : Ints W vs tS) (h2 : Ints W vm tM) => Inv_yes vs vm tS tM 0 W h1 h2 tref_valid (by decide) (by decide))
  rw [tref_three] at HC3
  rw [tref_five] at HC5
  rw [tref_cols, tref_list] at HI
  go_enter Try.func10, Try.ntmps10
  go_wp2_with fail
  refine (HT.out _).mono ?_
  rintro e w1 ⟨vs, vm, rfl, i1, i2, hb1⟩
  go_wp2_with fail
  refine (HC3.out vs vm w1 i1 i2).mono ?_
  rintro e w2 ⟨he, hb2⟩
  have he' : e = .returned (.tuple #[.int .i64 9, .int .i64 0]) := he
  subst he'
  clear he i1 i2
  have hb2' := hb1.trans (hb2.mono hb1.size)
  clear hb1 hb2
  go_wp2_with fail
  refine (HT.out _).mono ?_
  rintro e w3 ⟨vs3, vm3, rfl, i1, i2, hb3⟩
  have hb3' := hb2'.trans (hb3.mono hb2'.size)
  clear hb2' hb3
  go_wp2_with fail
  refine (HC5.out vs3 vm3 w3 i1 i2).mono ?_
  rintro e w4 ⟨he, hb4⟩
  have he' : e = .returned (.tuple #[.int .i64 5, .int .i64 0]) := he
  subst he'
  clear he i1 i2
  have hb4' := hb3'.trans (hb4.mono hb3'.size)
  clear hb3' hb4
  go_wp2_with fail
  refine (HT.out _).mono ?_
  rintro e w5 ⟨vs5, vm5, rfl, i1, i2, hb5⟩
  have hb5' := hb4'.trans (hb5.mono hb4'.size)
  clear hb4' hb5
  go_wp2_with fail
  refine (HI.out vs5 vm5 w5 i1 i2).mono ?_
  rintro e w6 ⟨g, rfl, hg, ha, hb6⟩
  have hb6' := hb5'.trans (hb6.mono hb5'.size)
  clear hb5' hb6 i1 i2
  go_wp2_with fail
  refine (Try.slices_Equal_int g 0 3 3 w6.heap.size 0 3 3 [1, 3, 0] [1, 3, 0] _ (by simp) (by simp) (by omega) (by omega) ?_ ?_).mono ?_
  · intro j hj
    have := (ha.alloc (.cells #[.int .i64 1, .int .i64 3, .int .i64 0] 3)).cell j
    rw [Nat.zero_add, this]
    match j, hj with
    | 0, _ => rfl
    | 1, _ => rfl
    | 2, _ => rfl
  · intro j hj
    have := (Arr.new w6 3 [.int .i64 1, .int .i64 3, .int .i64 0]).cell j
    rw [Nat.zero_add]
    refine this.trans ?_
    match j, hj with
    | 0, _ => rfl
    | 1, _ => rfl
    | 2, _ => rfl
  rintro e w7 ⟨rfl, q, rfl⟩
  go_wp2_with fail
  go_ret
  refine ⟨rfl, ?_⟩
  exact bdrewN (hb6'.alloc hb6'.size _) _
end Go.Proofs.Ytcjaloddgilnpaa

namespace Go.Proofs.Ytcjaloddgilnpaa
open Go.RowKit
set_option linter.unusedVariables false

theorem mat_bd {S M : List Int} {L : Int} (k : Ok S M L) : ∀ r ∈ matM (arcL M) (colN M L) S.length, r.length ≤ 1000 := by
  intro r hr
  unfold matM at hr
  obtain ⟨c, _, rfl⟩ := List.mem_map.1 hr
  rw [rowM_length]
  have := colN_le k; omega
set_option maxHeartbeats 2000000 in
theorem matrix_law (vs vm : Value) (S M : List Int) (L : Int) (w : World) (hS : Ints w vs S) (hM : Ints w vm M) :
    Calls Try.prog 3 #[.agg #[vs, vm, .int .i64 L]] w fun e w' => e = .returned (.bool true) ∧ Below w.heap.size w w' := by
  have hW : Arr (w.alloc (.cells #[vs, vm, .int .i64 L] 24)) w.heap.size 24 [vs, vm, .int .i64 L] ∧ Below w.heap.size w (w.alloc (.cells #[vs, vm, .int .i64 L] 24)) := ⟨Arr.new w _ _, (Below.refl _ _).alloc (Nat.le_refl _) _⟩
  have HAW := Lib.hid awake_any
  have HVR := Lib.hid (fun W (hb : Below w.heap.size w W) => valid_ref vs vm S M L W (hS.below hb) (hM.below hb))
  have HMN := Lib.hid (fun (hv : valB S M L = false) W (hb : Below w.heap.size w W) => Matrix_no vs vm S M L W (hS.below hb) (hM.below hb) hv)
  have HMY := Lib.hid (fun (hv : valB S M L = true) W (hb : Below w.heap.size w W) => Matrix_yes vs vm S M L W (hS.below hb) (hM.below hb) hv)
  have HRM := Lib.hid (fun (hv : valB S M L = true) W (hb : Below w.heap.size w W) => rMatrix vs vm S M L W (hS.below hb) (hM.below hb) (Lib.hid (valB_ok hv)))
  have HLI := Lib.hid (fun (hv : valB S M L = true) va vb W (h1 : Mat W va (matM (arcL M) (colN M L) S.length)) (h2 : Mat W vb (matM (arcL M) (colN M L) S.length)) => lists_eq va vb (matM (arcL M) (colN M L) S.length) W h1 h2 (by rw [matM_length]; have := (valB_ok hv).n; omega) (mat_bd (valB_ok hv)))
  obtain ⟨A, c, rfl, hc, hx⟩ := hS
  obtain ⟨A2, c2, rfl, hc2, hx2⟩ := hM
  clear hx hx2
  go_enter Try.func3, Try.ntmps3
  go_upto_region 1 with fail
  generalize (w.alloc (.cells #[.slice A S.length c, .slice A2 M.length c2, .int .i64 L] 24)) = w4 at hW ⊢
  obtain ⟨q0, hb4⟩ := hW
  go_upto_region 3 with (go_at_call 10; refine (HAW.out _).mono ?_; rintro e w5 ⟨rfl, hb5⟩)
  have q5 := q0.below hb5 q0.lt
  have hb5' := hb4.trans (hb5.mono hb4.size)
  have y0 := q5.cell 0
  have y1 := q5.cell 1
  have y2 := q5.cell 2
  clear q0 hb4 hb5
  by_cases h14 : 14 < S.length
  · have z1 : (14 : Int) < (S.length : Int) := by omega
    go_wp2_with fail
    go_ret
    exact ⟨rfl, hb5'⟩
  · have z1 : ¬ ((14 : Int) < (S.length : Int)) := by omega
    by_cases h10 : 10 < L ∧ L ≤ 64
    · obtain ⟨z2, z3⟩ := h10
      go_wp2_with fail
      go_ret
      exact ⟨rfl, hb5'⟩
    · cases hv : valB S M L with
      | false =>
        have HM1 := Lib.hid (HMN.out hv w5 hb5')
        rw [hv] at HVR
        clear hv HMN HMY HRM HLI
        by_cases h10' : 10 < L
        · have z2 : ¬ (L ≤ 64) := by omega
          clear h10
          go_upto_region 6 with (go_at_call 11; refine HM1.out.mono ?_; rintro e w6 ⟨rfl, hb6⟩)
          have q6 := q5.below hb6 q5.lt
          have hb6' := hb5'.trans (hb6.mono hb5'.size)
          clear y0 y1 y2
          have y0 := q6.cell 0
          have y1 := q6.cell 1
          have y2 := q6.cell 2
          go_wp2_with (go_at_call 12; refine (HVR.out _ hb6').mono ?_; rintro e w7 ⟨rfl, hb7⟩)
          go_ret
          exact ⟨rfl, hb6'.trans (hb7.mono hb6'.size)⟩
        · clear h10
          go_upto_region 6 with (go_at_call 11; refine HM1.out.mono ?_; rintro e w6 ⟨rfl, hb6⟩)
          have q6 := q5.below hb6 q5.lt
          have hb6' := hb5'.trans (hb6.mono hb5'.size)
          clear y0 y1 y2
          have y0 := q6.cell 0
          have y1 := q6.cell 1
          have y2 := q6.cell 2
          go_wp2_with (go_at_call 12; refine (HVR.out _ hb6').mono ?_; rintro e w7 ⟨rfl, hb7⟩)
          go_ret
          exact ⟨rfl, hb6'.trans (hb7.mono hb6'.size)⟩
      | true =>
        have HM1 := Lib.hid (HMY.out hv w5 hb5')
        have HR1 := Lib.hid (HRM.out hv)
        have HL1 := Lib.hid (HLI.out hv)
        have h64 := (valB_ok hv).l1
        have z2 : ¬ (10 < L) := by omega
        rw [hv] at HVR
        clear hv HMN HMY HRM HLI h10
        go_upto_region 6 with (go_at_call 11; refine HM1.out.mono ?_; rintro e w6 ⟨v6, rfl, hm6, hb6⟩)
        have q6 := q5.below hb6 q5.lt
        have hb6' := hb5'.trans (hb6.mono hb5'.size)
        clear y0 y1 y2
        have y0 := q6.cell 0
        have y1 := q6.cell 1
        have y2 := q6.cell 2
        have HM6 := Lib.hid hm6
        clear hm6
        go_upto_region 8 with (go_at_call 12; refine (HVR.out _ hb6').mono ?_; rintro e w7 ⟨rfl, hb7⟩)
        have q7 := q6.below hb7 q6.lt
        have hb7' := hb6'.trans (hb7.mono hb6'.size)
        have HM7 := Lib.hid (HM6.out.below hb7)
        clear y0 y1 y2
        have y0 := q7.cell 0
        have y1 := q7.cell 1
        have y2 := q7.cell 2
        go_wp2_with fail
        refine (HR1.out w7 hb7').mono ?_
        rintro e w8 ⟨v8, rfl, hm8, hb8⟩
        have HL8 := Lib.hid (HL1.out v6 v8 w8 (HM7.out.below hb8) hm8)
        clear hm8
        go_wp2_with fail
        refine HL8.out.mono ?_
        rintro e w9 ⟨rfl, q, rfl⟩
        go_wp2_with fail
        go_ret
        exact ⟨rfl, bdrewN (hb7'.trans (hb8.mono hb7'.size)) _⟩
end Go.Proofs.Ytcjaloddgilnpaa
