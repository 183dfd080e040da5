/- The reference's small functions: In, IsPerm, Valid, Column, lower, split. -/
import Derived.Test.YteliflcbegcdlaaGreatDoorZTurn
import Derived.Test.YteliflcbegcdlaaGreatDoorZOwn
import Derived.Outline
namespace Go.Proofs.YteliflcbegcdlaaGreatDoor
open Go.RowKit
set_option linter.unusedVariables false
theorem Ints.one (w : World) (t : TypeId) (x : Int) : Ints (w.alloc (.cells #[.int .i64 x] t)) (.slice (some ⟨w.heap.size, 0, none⟩) 1 1) [x] := Ints.of_arr (xs := [x]) (Arr.new w t [.int .i64 x])
set_option maxHeartbeats 400000 in
theorem in_any (vx : Value) (X : List Int) (y : Int) (w : World) (hX : Ints w vx X) (hl : X.length ≤ 1000) :
    Calls Tryz.prog 40 #[vx, .int .i64 y] w fun e w' => e = .returned (.bool (decide (y ∈ X))) ∧ w = w' := by
  have hX0 := hX
  obtain ⟨A, c, rfl, hc, hh⟩ := hX
  clear hh
  go_enter Tryz.func40, Tryz.ntmps40
  go_wp2_with fail
  go_loop [5] (fun i => ∃ k : Nat, k ≤ X.length ∧ i = .int .i64 k ∧ Hid (y ∈ X ↔ y ∈ X.drop k)) (fun i => X.length - (intOf i).toNat)
  case atStart => exact ⟨0, Nat.zero_le _, rfl, Iff.rfl⟩
  case round =>
    obtain ⟨k, hk, rfl, H⟩ := hrel
    by_cases hlt : k < X.length
    · obtain ⟨b, o, rfl, hbl, hcell⟩ := hX0.at_ hlt
      rw [List.drop_eq_getElem_cons hlt, List.mem_cons] at H
      generalize X[k] = x at *
      by_cases e : x = y
      · have d : (x == y) = true := by simpa using e
        have hfin := Lib.hid (show decide (y ∈ X) = true by simp; exact H.out.2 (.inl e.symm))
        clear e
        go_wp2_with fail
        go_ret
        exact ⟨by rw [hfin.out]; rfl, rfl⟩
      · have d : (x == y) = false := by simpa using e
        have H' := Lib.hid (show y ∈ X ↔ y ∈ X.drop (k + 1) from H.out.trans ⟨fun h => h.resolve_left (fun h => e h.symm), .inr⟩)
        clear e
        go_wp2_with fail
        go_round
        case rel => exact ⟨k + 1, by omega, by go_num, H'⟩
        case measure => simp [intOf]; omega
    · have hk2 : k = X.length := by omega
      have hfin := Lib.hid (show decide (y ∈ X) = false by simp; rw [H.out, hk2, List.drop_length]; simp)
      clear hk2
      go_wp2_with fail
      go_ret
      exact ⟨by rw [hfin.out]; rfl, rfl⟩
/-- every number below m occurs -/
def allIn (X : List Int) : Nat → Nat → Bool
  | _, 0 => true
  | k, m + 1 => decide ((k : Int) ∈ X) && allIn X (k + 1) m
def refPerm (X : List Int) (n : Nat) : Bool := decide (X.length = n) && allIn X 0 n
set_option maxHeartbeats 400000 in
theorem isPerm_any (vx : Value) (X : List Int) (n : Nat) (w : World) (hX : Ints w vx X) (hl : X.length ≤ 1000) (hn : n ≤ 1000) :
    Calls Tryz.prog 21 #[vx, .int .i64 n] w fun e w' => e = .returned (.bool (refPerm X n)) ∧ w = w' := by
  have hX0 := hX
  obtain ⟨A, c, rfl, hc, hh⟩ := hX
  clear hh
  by_cases hlen : X.length = n
  rotate_left
  · have t : ((X.length : Int) != (n : Int)) = true := by simp; omega
    have hfin := Lib.hid (show refPerm X n = false by simp [refPerm, hlen])
    clear hlen
    go_enter Tryz.func21, Tryz.ntmps21
    go_wp2_with fail
    go_ret
    exact ⟨by rw [hfin.out]; rfl, rfl⟩
  have t : ((X.length : Int) != (n : Int)) = false := by simp; omega
  have hfin0 := Lib.hid (show refPerm X n = allIn X 0 (n - 0) by simp [refPerm, hlen])
  clear hlen
  go_enter Tryz.func21, Tryz.ntmps21
  go_wp2_with fail
  clear t
  go_loop [5] (fun i => ∃ k : Nat, k ≤ n ∧ i = .int .i64 k ∧ Hid (refPerm X n = allIn X k (n - k))) (fun i => n - (intOf i).toNat)
  case atStart => exact ⟨0, Nat.zero_le _, rfl, hfin0⟩
  case round =>
    clear hfin0
    obtain ⟨k, hk, rfl, H⟩ := hrel
    by_cases hlt : k < n
    · rw [show n - k = (n - (k + 1)) + 1 from by omega, allIn] at H
      go_wp2_with fail
      refine (in_any _ X k _ hX0 hl).mono ?_
      rintro e w' ⟨rfl, rfl⟩
      by_cases e : (k : Int) ∈ X
      · rw [decide_eq_true e] at H ⊢
        rw [Bool.true_and] at H
        clear e
        go_wp2_with fail
        go_round
        case rel => exact ⟨k + 1, by omega, by go_num, H⟩
        case measure => simp [intOf]; omega
      · rw [decide_eq_false e] at H ⊢
        rw [Bool.false_and] at H
        clear e
        go_wp2_with fail
        go_ret
        exact ⟨by rw [H.out]; rfl, rfl⟩
    · rw [show n - k = 0 from by omega] at H
      go_wp2_with fail
      go_ret
      exact ⟨by rw [H.out]; rfl, rfl⟩
theorem allIn_iff (X : List Int) : ∀ m k, allIn X k m = true ↔ ∀ j, k ≤ j → j < k + m → (j : Int) ∈ X := by
  intro m
  induction m with
  | zero => intro k; simp [allIn]; omega
  | succ m ih =>
    intro k
    rw [allIn, Bool.and_eq_true, ih, decide_eq_true_eq]
    constructor
    · rintro ⟨h1, h2⟩ j hj hj'
      by_cases e : j = k
      · rw [e]; exact h1
      · exact h2 j (by omega) (by omega)
    · intro h
      exact ⟨h k (by omega) (by omega), fun j hj hj' => h j (by omega) (by omega)⟩
theorem perm_of_sub : ∀ (l X : List Int), l.Nodup → l ⊆ X → X.length ≤ l.length → l.Perm X := by
  intro l
  induction l with
  | nil =>
    intro X _ _ h
    cases X with
    | nil => exact .refl _
    | cons x X => simp at h
  | cons a l ih =>
    intro X hn hs hl
    obtain ⟨h1, h2⟩ := List.nodup_cons.1 hn
    have ha : a ∈ X := hs (by simp)
    have hp := List.perm_cons_erase ha
    have hs' : l ⊆ X.erase a := fun x hx => (List.mem_erase_of_ne (fun e => h1 (by rw [← e]; exact hx))).2 (hs (by simp [hx]))
    have hlen : (X.erase a).length ≤ l.length := by rw [List.length_erase_of_mem ha]; simp at hl; omega
    exact ((ih _ h2 hs' hlen).cons a).trans hp.symm
/-- the reference's test is the program's -/
theorem perm_ref (X : List Int) : allIn X 0 X.length = permB X := by
  rw [Bool.eq_iff_iff, allIn_iff, permB_iff]
  constructor
  · intro h
    have hs : (List.range X.length).map (fun i : Nat => (i : Int)) ⊆ X := by
      intro x hx
      obtain ⟨j, hj, rfl⟩ := List.mem_map.1 hx
      exact h j (by omega) (by have := List.mem_range.1 hj; omega)
    have hnd : ((List.range X.length).map (fun i : Nat => (i : Int))).Nodup := by
      rw [List.nodup_iff_pairwise_ne, List.pairwise_iff_getElem]
      intro i j hi hj hlt e
      simp at e
      omega
    have hp : ((List.range X.length).map (fun i : Nat => (i : Int))).Perm X := perm_of_sub _ _ hnd hs (by simp)
    refine ⟨fun x hx => ?_, hp.nodup_iff.1 hnd⟩
    obtain ⟨j, hj, rfl⟩ := List.mem_map.1 (hp.mem_iff.2 hx)
    have := List.mem_range.1 hj
    omega
  · intro h j _ hj
    obtain ⟨k, hk, e⟩ := h.surj (j := j) (by omega)
    rw [← e]; exact List.getElem_mem hk
def refValidB (X O : List Int) : Bool := decide (2 ≤ X.length) && decide (X.length ≤ 40) && refPerm X X.length && refPerm O X.length && neqB X O
theorem refValidB_eq (X O : List Int) : refValidB X O = validB X O := by
  rw [Bool.eq_iff_iff]
  unfold refValidB refPerm
  simp only [Bool.and_eq_true, decide_eq_true_eq, validB]
  constructor
  · rintro ⟨⟨⟨⟨h1, h2⟩, _, h3⟩, h4, h5⟩, h6⟩
    rw [← h4] at h5
    rw [perm_ref] at h3 h5
    exact ⟨⟨⟨⟨⟨h1, h2⟩, h4⟩, h6⟩, h3⟩, h5⟩
  · rintro ⟨⟨⟨⟨⟨h1, h2⟩, h4⟩, h6⟩, h3⟩, h5⟩
    rw [← perm_ref] at h3 h5
    rw [h4] at h5
    exact ⟨⟨⟨⟨h1, h2⟩, trivial, h3⟩, h4, h5⟩, h6⟩
set_option maxHeartbeats 400000 in
theorem column_any (vx : Value) (X : List Int) (y : Int) (w : World) (hX : Ints w vx X) (hl : X.length ≤ 1000) :
    Calls Tryz.prog 22 #[vx, .int .i64 y] w fun e w' => e = .returned (.int .i64 (if y ∈ X then (X.idxOf y : Int) else -1)) ∧ w = w' := by
  have hX0 := hX
  obtain ⟨A, c, rfl, hc, hh⟩ := hX
  clear hh
  generalize hR : (if y ∈ X then (X.idxOf y : Int) else -1) = R
  have HR := Lib.hid hR
  clear hR
  go_enter Tryz.func22, Tryz.ntmps22
  go_wp2_with fail
  go_loop [5] (fun i => ∃ k : Nat, k ≤ X.length ∧ i = .int .i64 k ∧ Hid (∀ j (h : j < X.length), j < k → X[j] ≠ y)) (fun i => X.length - (intOf i).toNat)
  case atStart => exact ⟨0, Nat.zero_le _, rfl, fun j _ h => by omega⟩
  case round =>
    obtain ⟨k, hk, rfl, H⟩ := hrel
    by_cases hlt : k < X.length
    · obtain ⟨b, o, rfl, hbl, hcell⟩ := hX0.at_ hlt
      by_cases e : X[k] = y
      · have d : (X[k] == y) = true := by simpa using e
        have hfin := Lib.hid (show R = k by
          rw [← HR.out, if_pos (by rw [← e]; exact List.getElem_mem hlt)]
          congr 1
          have hidx : X.idxOf y < X.length := List.idxOf_lt_length_of_mem (by rw [← e]; exact List.getElem_mem hlt)
          have h1 : X[X.idxOf y] = y := List.getElem_idxOf hidx
          have h2 : ¬ X.idxOf y < k := fun h => H.out _ hidx h h1
          have h3 : ¬ k < X.idxOf y := fun h => by have := List.not_of_lt_findIdx (show k < X.findIdx (· == y) from h); simp at this; exact this e
          omega)
        clear e
        generalize X[k] = x at *
        go_wp2_with fail
        go_ret
        exact ⟨by rw [hfin.out]; rfl, rfl⟩
      · have d : (X[k] == y) = false := by simpa using e
        have H' := Lib.hid (show ∀ j (h : j < X.length), j < k + 1 → X[j] ≠ y from fun j h hj => by
          by_cases ej : j = k
          · subst ej; exact e
          · exact H.out j h (by omega))
        clear e H
        generalize X[k] = x at *
        go_wp2_with fail
        go_round
        case rel => exact ⟨k + 1, by omega, by go_num, H'⟩
        case measure => simp [intOf]; omega
    · have hfin := Lib.hid (show R = -1 by
        rw [← HR.out, if_neg]
        intro hm
        obtain ⟨j, hj, e⟩ := List.mem_iff_getElem.1 hm
        exact H.out j hj (by omega) e)
      go_wp2_with fail
      go_ret
      exact ⟨by rw [hfin.out]; rfl, rfl⟩
theorem info_int8 : (Tryz.prog.info? 3).map (fun i => (i.zero, i.size, i.bytes)) = some (some (.int .i64 0), 1, 8) := by kernel_rfl
set_option maxHeartbeats 1000000 in
theorem lower_any (vx : Value) (X : List Int) (r : Int) (w : World) (hX : Ints w vx X) (hl : X.length ≤ 1000) (hx : ∀ x ∈ X, -1000 ≤ x ∧ x ≤ 1000) :
    Calls Tryz.prog 98 #[vx, .int .i64 r] w fun e w' => ∃ v, e = .returned v ∧ OwnI 3 w.heap.size w' v (X.map (lowr r)) ∧ Below w.heap.size w w' := by
  obtain ⟨i0, hi0, hz0, hz1, hz2⟩ := info_parts info_int8
  have hX0 := hX
  obtain ⟨A, c, rfl, hc, hh⟩ := hX
  clear hh
  go_enter Tryz.func98, Tryz.ntmps98
  go_wp2_with fail
  go_loopw [5, 6] (fun s i wr => ∃ k : Nat, k ≤ X.length ∧ i = .int .i64 k ∧ OwnI 3 w.heap.size wr s ((X.take k).map (lowr r)) ∧ Below w.heap.size w wr) (fun _ i _ => X.length - (intOf i).toNat)
  case atStart => exact ⟨0, Nat.zero_le _, rfl, OwnI.nil _ _ _, Below.refl _ _⟩
  case round =>
    obtain ⟨k, hk, rfl, hown, hbel⟩ := hrel
    by_cases hlt : k < X.length
    · obtain ⟨b, o, rfl, hbl, hcell⟩ := hX0.at_ hlt
      have hc' := (hbel.cell (p := ⟨b, o + k, none⟩) hbl).trans hcell
      have hb := hx _ (List.getElem_mem hlt)
      have hS := Lib.hid (show (X.take (k + 1)).map (lowr r) = (X.take k).map (lowr r) ++ [lowr r X[k]] by rw [List.take_succ_eq_append_getElem hlt, List.map_append]; rfl)
      have hlk : ((X.take k).map (lowr r)).length ≤ 1000 := by simp; omega
      have hlr := Lib.hid (show lowr r X[k] = if r < X[k] then X[k] - 1 else X[k] from rfl)
      generalize X[k] = x at *
      generalize lowr r x = q at *
      clear hcell
      by_cases e : r < x
      · have hq := Lib.hid (hlr.out.trans (if_pos e))
        go_wp2_with ((at_builtin; refine wpList_appI rfl _ _ 22 rfl Tryz.underlying22 hi0 hz0 hz1 hz2 rfl (hown.alloc _) rfl (Ints.one wr 3 _) (by simp at hlk ⊢; omega) (Nat.le_trans hbel.size (by simp)) ?_; intro v' w1 hown' hb1 hk1))
        have hb2 := (hbel.alloc hbel.size _).trans hb1
        go_roundw
        case rel => exact ⟨k + 1, by omega, by go_num, by rw [hS.out, hq.out]; exact hown', hb2⟩
        case measure => simp [intOf]; omega
      · have hq := Lib.hid (hlr.out.trans (if_neg e))
        have e' : x ≤ r := by omega
        go_wp2_with ((at_builtin; refine wpList_appI rfl _ _ 22 rfl Tryz.underlying22 hi0 hz0 hz1 hz2 rfl (hown.alloc _) rfl (Ints.one wr 3 _) (by simp at hlk ⊢; omega) (Nat.le_trans hbel.size (by simp)) ?_; intro v' w1 hown' hb1 hk1))
        have hb2 := (hbel.alloc hbel.size _).trans hb1
        go_roundw
        case rel => exact ⟨k + 1, by omega, by go_num, by rw [hS.out, hq.out]; exact hown', hb2⟩
        case measure => simp [intOf]; omega
    · have hk2 : X.take k = X := List.take_of_length_le (by omega)
      rw [hk2] at hown
      clear hk2
      go_wp2_with fail
      go_ret
      exact ⟨_, rfl, hown, hbel⟩
end Go.Proofs.YteliflcbegcdlaaGreatDoor
