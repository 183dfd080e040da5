/- The invariants: a chain of divisors whose last one is 0 (plain). -/
import Derived.Test.YtcjaloddgilnpaaZGcq
import Derived.Test.YtcjaloddgilnpaaZAwk
namespace Go.Proofs.Ytcjaloddgilnpaa
set_option linter.unusedVariables false

theorem rs_mod {m : Nat} (hm : 0 < m) (x : Int) : (m : Int) ∣ (rs m x : Int) - x := by
  unfold rs
  split
  · next h =>
    have := mod_sub_dvd m 0 x.natAbs hm
    rwa [show ((0 : Nat) : Int) - (x.natAbs : Int) = x by omega] at this
  · next h =>
    have h1 := Nat.div_add_mod x.natAbs m
    refine ⟨-((x.natAbs / m : Nat) : Int), ?_⟩
    have h2 : ((m * (x.natAbs / m) + x.natAbs % m : Nat) : Int) = (x.natAbs : Int) := by rw [h1]
    rw [Int.natCast_add, Int.natCast_mul] at h2
    rw [Int.mul_neg]
    omega
theorem ge_resF {m : Nat} {rows : List (List Int)} {i j : Nat} (hi : i < rows.length) (hj : j < rows[i].length) : ge (resF m rows) i j = rs m (gi rows[i] j) := by
  unfold ge gr resF
  rw [List.getElem?_map, List.getElem?_eq_getElem hi]
  simp only [Option.map_some, Option.getD_some]
  unfold gn resR gi
  rw [List.getElem?_map, List.getElem?_eq_getElem hj]; rfl
theorem kv_start {m C : Nat} {rows : List (List Int)} (hm : 0 < m) (hC : 0 < C) (hc : ∀ r ∈ rows, r.length = C) (hs : ∀ r ∈ rows, sumI C (gi r) = 0) : KV m C 0 (fun _ => 1) (resF m rows) := by
  refine ⟨fun _ => 1, fun i j _ _ h => by omega, fun i hi => ?_, ⟨fun j => if j = 0 then 1 else 0, ?_⟩, fun i hi => by omega⟩
  · rw [resF_length] at hi
    have hl := hc _ (List.getElem_mem hi)
    have h0 := hs _ (List.getElem_mem hi)
    have h1 : (m : Int) ∣ sumI C (fun j => (ge (resF m rows) i j : Int) * 1) - sumI C (gi rows[i]) := sumI_mod (fun l hl' => by
      show (m : Int) ∣ (ge (resF m rows) i l : Int) * 1 - gi rows[i] l
      rw [Int.mul_one, ge_resF hi (by rw [hl]; exact hl')]
      exact rs_mod hm _)
    rwa [h0, Int.sub_zero] at h1
  · have e := sumI_single (f := fun j => (if j = 0 then (1 : Int) else 0) * 1) hC (fun l _ hne => by
      show (if l = 0 then (1 : Int) else 0) * 1 = 0
      rw [if_neg hne]; rfl)
    have e2 : (fun j : Nat => (if j = 0 then (1 : Int) else 0) * (fun _ => 1) j) = fun j => (if j = 0 then (1 : Int) else 0) * 1 := rfl
    rw [e2, e]
    simp
theorem sum_addI {C : Nat} {r : List Int} {i : Nat} (d : Int) (hr : r.length = C) (hi : i < C) : sumI C (gi (addI r i d)) = sumI C (gi r) + d := by
  have h := sumI_one (f := gi (addI r i d)) (g := gi r) hi (fun l _ hne => by
    unfold addI; rw [gi_set _ _ _ _ (by omega), if_neg hne])
  rw [h]
  unfold addI
  rw [gi_set _ _ _ _ (by omega), if_pos rfl]; omega
theorem sum_rowM {arc : List Nat} {cols c : Nat} (h0 : gn arc (4 * c) < cols) (h1 : gn arc (4 * c + 1) < cols) (h2 : gn arc (4 * c + 2) < cols) : sumI cols (gi (rowM arc cols c)) = 0 := by
  unfold rowM
  rw [sum_addI _ (by simp [addI_length]) h2, sum_addI _ (by simp [addI_length]) h0, sum_addI _ (by simp) h1]
  have : sumI cols (gi (List.replicate cols 0)) = 0 := by
    rw [sumI_congr (g := fun _ => 0) (fun l _ => gi_zeros cols l)]; exact sumI_zero
  rw [this]; rfl
theorem rowsOf_zero {S M : List Int} {L : Int} (k : Ok S M L) : ∀ r ∈ rowsOf S M L, sumI (colN M L) (gi r) = 0 := by
  intro r hr
  unfold rowsOf matM at hr
  obtain ⟨c, hc, rfl⟩ := List.mem_map.1 hr
  have hc' := List.mem_range.1 hc
  have hm := k.m
  exact sum_rowM (arc_lt k (by omega)) (arc_lt k (by omega)) (arc_lt k (by omega))
section
variable {S M : List Int} {L : Int}
theorem gn_invL {j : Nat} (h : j < colN M L) : gn (invL S M L) j = gn (facL S M L) j := by unfold invL; rw [gn_map_range, if_pos h]
theorem inv_last (k : Ok S M L) (hK : 0 < colN M L) : gn (invL S M L) (colN M L - 1) = 0 := by
  rw [gn_invL (by omega)]
  by_cases hd : (facL S M L).length ≤ colN M L - 1
  · exact gn_out hd
  · rw [facL_length] at hd
    have hn : 0 < S.length := by omega
    have hcols := rowsOf_cols (S := S) (M := M) (L := L) hn
    have hmin : min S.length (cols (rowsOf S M L)) = colN M L := by have := cols_le (S := S) (M := M) (L := L); omega
    obtain ⟨m0, _⟩ := smD_bd (C := cols (rowsOf S M L)) (rows := rowsOf S M L) rowsOf_len
    have hc : ∀ r ∈ rowsOf S M L, r.length = colN M L := fun r hr => by rw [rowsOf_len r hr, hcols]
    unfold facL facO
    rw [hmin, hcols] at *
    have hlast := facD_last (m := smD (colN M L) (rowsOf S M L)) (C := colN M L) (rows := rowsOf S M L) m0 hc hK (by rw [rowsOf_length]; omega) (kv_start m0 hK hc (rowsOf_zero k))
    rw [gn_outP (by rw [facD_length]; omega), if_neg (fun q => q.2 hlast)]
theorem inv_next (k : Ok S M L) {i : Nat} (h0 : 0 < i) (hi : i < colN M L) : (gn (invL S M L) (i - 1) = 0 → gn (invL S M L) i = 0) ∧ gn (invL S M L) i % gn (invL S M L) (i - 1) = 0 := by
  obtain ⟨m0, _⟩ := smD_bd (C := cols (rowsOf S M L)) (rows := rowsOf S M L) rowsOf_len
  rw [gn_invL hi, gn_invL (by omega)]
  have hl := facL_length S M L
  rcases Nat.lt_or_ge i (facL S M L).length with q | q
  · have hch := facD_chn (smD (cols (rowsOf S M L)) (rowsOf S M L)) (cols (rowsOf S M L)) (rowsOf S M L) (min S.length (cols (rowsOf S M L))) (i - 1) i (by omega) (by omega) (by omega)
    have hdv := facD_dvs (smD (cols (rowsOf S M L)) (rowsOf S M L)) (cols (rowsOf S M L)) (rowsOf S M L) (min S.length (cols (rowsOf S M L))) i (by rw [facD_length]; omega)
    have hl2 := facD_length (smD (cols (rowsOf S M L)) (rowsOf S M L)) (cols (rowsOf S M L)) (rowsOf S M L) (min S.length (cols (rowsOf S M L)))
    unfold facL facO
    rw [gn_outP (by omega), gn_outP (by omega)]
    generalize facD (smD (cols (rowsOf S M L)) (rowsOf S M L)) (cols (rowsOf S M L)) (rowsOf S M L) (min S.length (cols (rowsOf S M L))) = D at *
    generalize smD (cols (rowsOf S M L)) (rowsOf S M L) = m at *
    generalize min S.length (cols (rowsOf S M L)) = d at *
    by_cases e1 : gn D (i - 1) = m
    · rw [e1] at hch
      have e2 : gn D i = m := Nat.dvd_antisymm hdv hch
      rw [if_neg (c := i < d ∧ gn D i ≠ m) (fun z => z.2 e2)]
      exact ⟨fun _ => rfl, Nat.zero_mod _⟩
    · rw [if_pos (c := i - 1 < d ∧ gn D (i - 1) ≠ m) ⟨by omega, e1⟩]
      have hp : gn D (i - 1) ≠ 0 := fun z => by
        rw [z] at hch
        have := Nat.eq_zero_of_zero_dvd hch
        rw [this] at hdv
        have := Nat.eq_zero_of_zero_dvd hdv
        omega
      refine ⟨fun z => absurd z hp, ?_⟩
      split
      · exact Nat.mod_eq_zero_of_dvd hch
      · exact Nat.zero_mod _
  · rw [gn_out q]; exact ⟨fun _ => rfl, Nat.zero_mod _⟩
end
/-- as the law reckons the product -/
def prL (l : List Nat) (m : Nat) : Nat → Nat × Bool
  | 0 => (1, false)
  | x + 1 => if 1125899906842624 < (prL l m x).1 * Nat.gcd (gn l x) m then (1, true) else ((prL l m x).1 * Nat.gcd (gn l x) m, (prL l m x).2)
theorem prL_bd (l : List Nat) {m : Nat} (hm : 0 < m) : ∀ x, 1 ≤ (prL l m x).1 ∧ (prL l m x).1 ≤ 1125899906842624
  | 0 => by simp [prL]
  | x + 1 => by
    have h := prL_bd l hm x
    have hg : 0 < Nat.gcd (gn l x) m := Nat.gcd_pos_of_pos_right _ hm
    rw [prL]; split
    · simp
    · exact ⟨Nat.mul_pos h.1 hg, by simp only; omega⟩
theorem prL_cnt (l : List Nat) {m : Nat} (hm : 0 < m) : ∀ x, cntP l m x = if (prL l m x).2 = true then none else some (prL l m x).1
  | 0 => rfl
  | x + 1 => by
    have h := prL_cnt l hm x
    have hg : 0 < Nat.gcd (gn l x) m := Nat.gcd_pos_of_pos_right _ hm
    rw [prL]
    by_cases hb : (prL l m x).2 = true
    · rw [if_pos hb] at h
      rw [cntP_none h (x + 1) (by omega)]
      split
      · rfl
      · rfl
    · rw [if_neg hb] at h
      rw [cntP_step h]
      have he : 1125899906842624 / Nat.gcd (gn l x) m < (prL l m x).1 ↔ 1125899906842624 < (prL l m x).1 * Nat.gcd (gn l x) m := Nat.div_lt_iff_lt_mul hg
      by_cases q : 1125899906842624 < (prL l m x).1 * Nat.gcd (gn l x) m
      · rw [if_pos (he.2 q), if_pos q]; rfl
      · rw [if_neg (fun z => q (he.1 z)), if_neg q]
        show _ = if (prL l m x).2 = true then none else some _
        rw [if_neg hb]
end Go.Proofs.Ytcjaloddgilnpaa
