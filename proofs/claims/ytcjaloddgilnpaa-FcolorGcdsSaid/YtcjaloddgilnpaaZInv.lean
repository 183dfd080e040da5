/- fcolor.Invariants: the walk. -/
import Derived.Test.YtcjaloddgilnpaaZSmi
import Derived.Laws.CopyOwn
namespace Go.Proofs.Ytcjaloddgilnpaa
open Go.RowKit
set_option linter.unusedVariables false

def rowsOf (S M : List Int) (L : Int) : List (List Int) := matM (arcL M) (colN M L) S.length
theorem rowsOf_length (S M : List Int) (L : Int) : (rowsOf S M L).length = S.length := matM_length _ _ _
theorem rowsOf_mem {S M : List Int} {L : Int} {r : List Int} (h : r ∈ rowsOf S M L) : ∃ c, r = rowM (arcL M) (colN M L) c := by
  unfold rowsOf matM at h
  obtain ⟨c, _, rfl⟩ := List.mem_map.1 h
  exact ⟨c, rfl⟩
theorem rowsOf_cols {S M : List Int} {L : Int} (h : 0 < S.length) : cols (rowsOf S M L) = colN M L := by
  unfold cols rowsOf
  rw [matM_get h]; exact rowM_length _ _ _
theorem rowsOf_len {S M : List Int} {L : Int} : ∀ r ∈ rowsOf S M L, r.length = cols (rowsOf S M L) := by
  intro r hr
  have h0 : 0 < S.length := by
    rcases Nat.eq_zero_or_pos S.length with e | e
    · unfold rowsOf at hr; rw [e] at hr; simp [matM] at hr
    · exact e
  obtain ⟨c, rfl⟩ := rowsOf_mem hr
  rw [rowsOf_cols h0]; exact rowM_length _ _ _
theorem asum_set {r : List Int} {i : Nat} (h : i < r.length) (x : Int) : asum (r.set i x) + r[i].natAbs = asum r + x.natAbs := by
  induction r generalizing i with
  | nil => simp at h
  | cons a r ih =>
    cases i with
    | zero => simp [asum]; omega
    | succ i =>
      have := ih (i := i) (by simpa using h)
      simp only [List.set_cons_succ, List.getElem_cons_succ]
      unfold asum at this ⊢
      simp only [List.map_cons, List.sum_cons]
      omega
theorem asum_addI (r : List Int) (i : Nat) (d : Int) : asum (addI r i d) ≤ asum r + d.natAbs := by
  unfold addI
  rcases Nat.lt_or_ge i r.length with h | h
  · have h1 := asum_set h (gi r i + d)
    have h2 : gi r i = r[i] := by unfold gi; rw [List.getElem?_eq_getElem h]; rfl
    rw [h2] at h1 ⊢
    have h3 : (r[i] + d).natAbs ≤ r[i].natAbs + d.natAbs := Int.natAbs_add_le _ _
    omega
  · rw [List.set_eq_of_length_le h]; omega
theorem asum_zeros (n : Nat) : asum (List.replicate n 0) = 0 := by
  induction n with
  | zero => rfl
  | succ n ih => rw [List.replicate_succ]; unfold asum at ih ⊢; simp only [List.map_cons, List.sum_cons, ih]; rfl
theorem asum_rowM (arc : List Nat) (cols c : Nat) : asum (rowM arc cols c) ≤ 4 := by
  unfold rowM
  have h1 := asum_addI (addI (addI (List.replicate cols 0) (gn arc (4 * c + 1)) 2) (gn arc (4 * c)) (-1)) (gn arc (4 * c + 2)) (-1)
  have h2 := asum_addI (addI (List.replicate cols 0) (gn arc (4 * c + 1)) 2) (gn arc (4 * c)) (-1)
  have h3 := asum_addI (List.replicate cols 0) (gn arc (4 * c + 1)) 2
  rw [asum_zeros] at h3
  have e1 : ((-1 : Int)).natAbs = 1 := rfl
  have e2 : ((2 : Int)).natAbs = 2 := rfl
  omega
theorem rowsOf_sum {S M : List Int} {L : Int} : ∀ r ∈ rowsOf S M L, asum r ≤ 4 := fun r hr => by
  obtain ⟨c, rfl⟩ := rowsOf_mem hr; exact asum_rowM _ _ _
/-- what Smith returns -/
def facL (S M : List Int) (L : Int) : List Nat := facO (smD (cols (rowsOf S M L)) (rowsOf S M L)) (cols (rowsOf S M L)) (rowsOf S M L) (min S.length (cols (rowsOf S M L)))
theorem facD_length (m C : Nat) (rows : List (List Int)) (d : Nat) : (facD m C rows d).length = d := by unfold facD; rw [chI_length, dgP_length]
theorem facL_length (S M : List Int) (L : Int) : (facL S M L).length = min S.length (cols (rowsOf S M L)) := by unfold facL facO; rw [outP_length, facD_length]
/-- what Invariants returns -/
def invL (S M : List Int) (L : Int) : List Nat := (List.range (colN M L)).map (gn (facL S M L))
theorem invL_length (S M : List Int) (L : Int) : (invL S M L).length = colN M L := by simp [invL]
theorem cols_le {S M : List Int} {L : Int} : cols (rowsOf S M L) ≤ colN M L := by
  rcases Nat.eq_zero_or_pos S.length with e | e
  · unfold rowsOf; rw [e]; simp [matM, cols]
  · rw [rowsOf_cols e]; exact Nat.le_refl _
theorem splice_inv (S M : List Int) (L : Int) : splice (List.replicate (colN M L) (Value.int .i64 0)) 0 (nc (facL S M L)) = nc (invL S M L) := by
  have hl : (facL S M L).length ≤ colN M L := by rw [facL_length]; exact Nat.le_trans (Nat.min_le_right _ _) cols_le
  unfold splice
  apply List.ext_getElem?
  intro i
  simp only [List.take_zero, List.nil_append, Nat.zero_add]
  have hn : (nc (facL S M L)).length = (facL S M L).length := by simp [nc]
  rcases Nat.lt_or_ge i (facL S M L).length with q | q
  · rw [List.getElem?_append_left (by rw [hn]; exact q), nc_get q, nc_get (by rw [invL_length]; omega)]
    unfold invL; rw [gn_map_range, if_pos (by omega)]
  · rw [List.getElem?_append_right (by rw [hn]; exact q), List.getElem?_drop, List.getElem?_replicate, hn]
    rcases Nat.lt_or_ge i (colN M L) with q2 | q2
    · rw [if_pos (by omega), nc_get (by rw [invL_length]; exact q2)]
      unfold invL; rw [gn_map_range, if_pos q2, gn_out q]; rfl
    · rw [if_neg (by omega), List.getElem?_eq_none (by simp [nc, invL_length]; exact q2)]
theorem nc_one (l : List Nat) : ∀ v ∈ nc l, v.oneCell' = true := by
  intro v hv; obtain ⟨k, _, rfl⟩ := List.mem_map.1 hv; rfl
theorem colN_small {S M : List Int} {L : Int} (k : Ok S M L) (hn : S.length ≤ 14) (hL : L ≤ 4) : colN M L ≤ 60 := by
  unfold colN
  have := rk_le (labA M M.length M.length) M.length
  have := k.m; have := k.l0
  omega

set_option maxHeartbeats 1000000 in
theorem Inv_no (vs vm : Value) (S M : List Int) (L : Int) (w : World) (hS : Ints w vs S) (hM : Ints w vm M) (hv : valB S M L = false) :
    Calls Try.prog 21 #[.agg #[vs, vm, .int .i64 L]] w fun e w' => e = .returned (.tuple #[.slice none 0 0, .int .i64 1]) ∧ Below w.heap.size w w' := by
  have hW : Arr (w.alloc (.cells #[vs, vm, .int .i64 L] 24)) w.heap.size 24 [vs, vm, .int .i64 L] ∧ Below w.heap.size w (w.alloc (.cells #[vs, vm, .int .i64 L] 24)) := ⟨Arr.new w _ _, (Below.refl _ _).alloc (Nat.le_refl _) _⟩
  have HC := Lib.hid (fun W (hb : Below w.heap.size w W) => Matrix_no vs vm S M L W (hS.below hb) (hM.below hb) hv)
  clear hv
  obtain ⟨A, c, rfl, hc, hx⟩ := hS
  obtain ⟨A2, c2, rfl, hc2, hx2⟩ := hM
  clear hx hx2
  go_enter Try.func21, Try.ntmps21
  go_upto_region 1 with fail
  generalize (w.alloc (.cells #[.slice A S.length c, .slice A2 M.length c2, .int .i64 L] 24)) = w4 at hW ⊢
  obtain ⟨q0, hb4⟩ := hW
  have y0 := q0.cell 0
  have y1 := q0.cell 1
  have y2 := q0.cell 2
  go_wp2_with (go_at_call 11; refine (HC.out _ hb4).mono ?_; rintro e w5 ⟨rfl, hb5⟩)
  go_ret2
  exact ⟨rfl, hb4.trans (hb5.mono hb4.size)⟩
set_option maxHeartbeats 1000000 in
theorem Inv_full (vs vm : Value) (S M : List Int) (L : Int) (w : World) (hS : Ints w vs S) (hM : Ints w vm M) (hv : valB S M L = true) (hf : 14 < S.length ∨ 4 < L) :
    Calls Try.prog 21 #[.agg #[vs, vm, .int .i64 L]] w fun e w' => e = .returned (.tuple #[.slice none 0 0, .int .i64 5]) ∧ Below w.heap.size w w' := by
  have hW : Arr (w.alloc (.cells #[vs, vm, .int .i64 L] 24)) w.heap.size 24 [vs, vm, .int .i64 L] ∧ Below w.heap.size w (w.alloc (.cells #[vs, vm, .int .i64 L] 24)) := ⟨Arr.new w _ _, (Below.refl _ _).alloc (Nat.le_refl _) _⟩
  have HC := Lib.hid (fun W (hb : Below w.heap.size w W) => Matrix_yes vs vm S M L W (hS.below hb) (hM.below hb) hv)
  have hsl : S.length ≤ 64 := (valB_ok hv).n
  clear hv
  obtain ⟨A, c, rfl, hc, hx⟩ := hS
  obtain ⟨A2, c2, rfl, hc2, hx2⟩ := hM
  clear hx hx2
  go_enter Try.func21, Try.ntmps21
  go_upto_region 1 with fail
  generalize (w.alloc (.cells #[.slice A S.length c, .slice A2 M.length c2, .int .i64 L] 24)) = w4 at hW ⊢
  obtain ⟨q0, hb4⟩ := hW
  have y0 := q0.cell 0
  have y1 := q0.cell 1
  have y2 := q0.cell 2
  go_upto_region 4 with (go_at_call 11; refine (HC.out _ hb4).mono ?_; rintro e w5 ⟨v, rfl, hv5, hb5⟩)
  have q5 := q0.below hb5 q0.lt
  clear y0 y1 y2
  have y0 := q5.cell 0
  have y2 := q5.cell 2
  by_cases h14 : 14 < S.length
  · have z1 : (14 : Int) < (S.length : Int) := by omega
    go_wp2_with fail
    go_ret2
    exact ⟨rfl, hb4.trans (hb5.mono hb4.size)⟩
  · have z1 : ¬ ((14 : Int) < (S.length : Int)) := by omega
    have z2 : 4 < L := by omega
    go_wp2_with fail
    go_ret2
    exact ⟨rfl, hb4.trans (hb5.mono hb4.size)⟩
set_option maxHeartbeats 2000000 in
theorem Inv_yes (vs vm : Value) (S M : List Int) (L : Int) (w : World) (hS : Ints w vs S) (hM : Ints w vm M) (hv : valB S M L = true) (hn : S.length ≤ 14) (hL : L ≤ 4) :
    Calls Try.prog 21 #[.agg #[vs, vm, .int .i64 L]] w fun e w' => ∃ g, e = .returned (.tuple #[.slice (some ⟨g, 0, none⟩) (colN M L) (colN M L), .int .i64 0]) ∧ w.heap.size ≤ g ∧ Arr w' g 3 (nc (invL S M L)) ∧ Below w.heap.size w w' := by
  obtain ⟨i2, hi2, hx0, hx1, hx2⟩ := info_parts intInfo
  have hcs := colN_small (valB_ok hv) hn hL
  have hcl := cols_le (S := S) (M := M) (L := L)
  have HMI := Lib.hid (run_make_one (P := Try.prog) 22 3 i2 (.int .i64 0) Try.underlying22 hi2 hx0 hx1 rfl (by omega) (colN M L) (by omega))
  have hW : Arr (w.alloc (.cells #[vs, vm, .int .i64 L] 24)) w.heap.size 24 [vs, vm, .int .i64 L] ∧ Below w.heap.size w (w.alloc (.cells #[vs, vm, .int .i64 L] 24)) := ⟨Arr.new w _ _, (Below.refl _ _).alloc (Nat.le_refl _) _⟩
  have HC := Lib.hid (fun W (hb : Below w.heap.size w W) => Matrix_yes vs vm S M L W (hS.below hb) (hM.below hb) hv)
  have HA := Lib.hid (fun W (hb : Below w.heap.size w W) => Arcs_yes vs vm S M L W (hS.below hb) (hM.below hb) hv)
  have HSM := Lib.hid (fun v W (hm : Mat W v (rowsOf S M L)) => Smith_any v (rowsOf S M L) (cols (rowsOf S M L)) W hm (by rw [rowsOf_length]; omega) (by omega) rfl rowsOf_len rowsOf_sum)
  rw [rowsOf_length] at HSM
  have HSM2 := Lib.hid (fun v W (hm : Mat W v (matM (arcL M) (colN M L) S.length)) => show Calls Try.prog 42 #[v] W fun e w' => ∃ g, e = .returned (.tuple #[.slice (some ⟨g, 0, none⟩) (min S.length (cols (rowsOf S M L))) (min S.length (cols (rowsOf S M L))), .int .i64 0]) ∧ W.heap.size ≤ g ∧ Arr w' g 3 (nc (facL S M L)) ∧ Below W.heap.size W w' from HSM.out v W hm)
  have HFL := Lib.hid (facL_length S M L)
  have HSP := Lib.hid (splice_inv S M L)
  generalize facL S M L = F at *
  generalize hd : min S.length (cols (rowsOf S M L)) = d at *
  have hdC : d ≤ colN M L := by omega
  generalize invL S M L = I at *
  obtain ⟨K, hK⟩ : ∃ K, K = colN M L := ⟨_, rfl⟩
  rw [← hK] at HC HA HSM2 HMI HSP hcs hdC ⊢
  clear hv HSM hd hcl hK
  obtain ⟨A, c, rfl, hc, hx⟩ := hS
  obtain ⟨A2, c2, rfl, hc2, hx2⟩ := hM
  clear hx hx2
  go_enter Try.func21, Try.ntmps21
  go_upto_region 1 with fail
  generalize (w.alloc (.cells #[.slice A S.length c, .slice A2 M.length c2, .int .i64 L] 24)) = w4 at hW ⊢
  obtain ⟨q0, hb4⟩ := hW
  have y0 := q0.cell 0
  have y1 := q0.cell 1
  have y2 := q0.cell 2
  go_upto_region 4 with (go_at_call 11; refine (HC.out _ hb4).mono ?_; rintro e w5 ⟨v, rfl, hv5, hb5⟩)
  have q5 := q0.below hb5 q0.lt
  have hb5' := hb4.trans (hb5.mono hb4.size)
  clear y0 y1 y2
  have y0 := q5.cell 0
  have y1 := q5.cell 1
  have y2 := q5.cell 2
  have z1 : ¬ ((14 : Int) < (S.length : Int)) := by omega
  have z2 : ¬ (4 < L) := by omega
  have HV5 := Lib.hid hv5
  clear hv5
  go_upto_region 9 with (go_at_call 33; refine (HA.out _ hb5').mono ?_; rintro e w6 ⟨g6, rfl, hg6, ha6, hb6⟩)
  have HS6 := Lib.hid (HSM2.out v w6 (HV5.out.below hb6))
  have hb6' := hb5'.trans (hb6.mono hb5'.size)
  clear y0 y1 y2 ha6 q0 q5
  have hmk := HMI.out
  go_upto_region 12 with (go_at_call 42; refine HS6.out.mono ?_; rintro e w7 ⟨g7, rfl, hg7, ha7, hb7⟩)
  have hb7' := hb6'.trans (hb7.mono hb6'.size)
  have lg := ha7.lt
  have hW8 : ∀ W, W = w7.alloc (.cells (rowOf (List.replicate (K) (Value.int .i64 0))) 3) → Arr W w7.heap.size 3 (List.replicate (K) (Value.int .i64 0)) ∧ Arr W g7 3 (nc F) ∧ Below w.heap.size w W := by
    intro W hW; subst hW; exact ⟨Arr.new w7 _ _, ha7.alloc _, hb7'.alloc hb7'.size _⟩
  go_upto_region 13 with fail
  generalize w7.alloc (.cells (rowOf (List.replicate (K) (Value.int .i64 0))) 3) = w8 at hW8 ⊢
  obtain ⟨a8, f8, b8⟩ := hW8 w8 rfl
  have HLG := Lib.hid (show w.heap.size ≤ w7.heap.size from hb7'.size)
  generalize w7.heap.size = g8 at *
  have hsz : (Try.prog.info? 3).map (·.size) = some 1 := by rw [hi2]; simp [hx1]
  clear hmk ha7 hb7 hb7' hW8
  have h8 : w8.heap[g8]? = some (.cells (List.replicate (K) (Value.int .i64 0)).toArray 3 (0, 0)) := a8
  have hF : (nc F).length = d := by rw [← HFL.out]; simp [nc]
  have hpos : 0 < (nc F).length → some (⟨g8, 0, none⟩ : Addr) = some ⟨g8, 0, none⟩ ∧ ∃ ad, some (⟨g7, 0, none⟩ : Addr) = some ad ∧ ∀ j v, (nc F)[j]? = some v → w8.cell? (ad.add j) = some v := fun _ => ⟨rfl, _, rfl, fun j v hj => by
    have : (⟨g7, 0, none⟩ : Addr).add j = ⟨g7, j, none⟩ := by unfold Addr.add; split <;> simp_all
    rw [this, f8.cell]; exact hj⟩
  have H8 := Lib.hid h8
  have HF := Lib.hid (show (nc F).length = Nat.min d (K) by rw [hF]; exact (Nat.min_eq_left hdC).symm)
  have HPO := Lib.hid hpos
  have HFI := Lib.hid (show 0 + (nc F).length ≤ (List.replicate (K) (Value.int .i64 0)).length by rw [hF]; simp; exact hdC)
  have HSZ := Lib.hid hsz
  have HN1 := Lib.hid (nc_one F)
  clear h8 hF hpos hsz hi2 hx0 hx1 hx2
  go_wp2_with (refine wpList_copy_splice rfl (.tmp 46) (.tmp 47) 22 22 rfl 3 Try.underlying22 HSZ.out (some ⟨g8, 0, none⟩) (some ⟨g7, 0, none⟩) K K d d (by rfl) (by rfl) g8 0 (List.replicate K (Value.int .i64 0)) 3 H8.out (nc F) HF.out HPO.out HFI.out HN1.out w.heap.size w b8 HLG.out ?_; intro w9 hg9 hb9)
  go_ret2
  exact ⟨g8, rfl, HLG.out, by unfold Arr rowOf; rw [← HSP.out]; exact hg9.out, hb9⟩
end Go.Proofs.Ytcjaloddgilnpaa
