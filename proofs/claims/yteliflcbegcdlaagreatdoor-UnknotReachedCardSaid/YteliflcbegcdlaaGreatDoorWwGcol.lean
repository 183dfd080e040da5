/- The reference's small functions: In, IsPerm, Valid, Column, lower, split. -/
/- A queue of integers: a slice of the call's own that is cut at its head and appended to. -/
/- Queues of elements of some cells: a slice of the call's own that is cut at its head and appended to; a region that draws its order, appends to it and stores it back. -/
/- append onto an empty slice without room: the result is a new row. -/
/- The reference's split and Valid. -/
/- The reference's removable. -/
/- grid.columns and the function that it returns. -/
import Derived.Test.YteliflcbegcdlaaGreatDoorWwUnp
import Derived.Test.YteliflcbegcdlaaGreatDoorWwOwn
import Derived.Outline
import Derived.Deep.AppendSrc
import Derived.Test.YteliflcbegcdlaaGreatDoorWwGrf
import Derived.Deep.DeepAppendWide
import Derived.Deep.RegionLawGrows
import Derived.OneCell
import Derived.BigGuardPart
import Derived.Deep.DeepCutAuto
import Derived.Deep.RegionWith
namespace Go.Proofs.YteliflcbegcdlaaGreatDoor
open Go.RowKit
set_option linter.unusedVariables false
theorem Ints.one (w : World) (t : TypeId) (x : Int) : Ints (w.alloc (.cells #[.int .i64 x] t)) (.slice (some ⟨w.heap.size, 0, none⟩) 1 1) [x] := Ints.of_arr (xs := [x]) (Arr.new w t [.int .i64 x])
set_option maxHeartbeats 400000 in
theorem in_any (vx : Value) (X : List Int) (y : Int) (w : World) (hX : Ints w vx X) (hl : X.length ≤ 1000) :
    Calls Tryz.prog 40 #[vx, .int .i64 y] w fun e w' => e = .returned (.bool (decide (y ∈ X))) ∧ w = w' := by
  have hX0 := hX
  obtain ⟨A, c, rfl, hc, hh⟩ := hX
  clear hh
  go_enter Tryz.func40, Tryz.ntmps40
  go_wp2_with fail
  go_loop [5] (fun i => ∃ k : Nat, k ≤ X.length ∧ i = .int .i64 k ∧ Hid (y ∈ X ↔ y ∈ X.drop k)) (fun i => X.length - (intOf i).toNat)
  case atStart => exact ⟨0, Nat.zero_le _, rfl, Iff.rfl⟩
  case round =>
    obtain ⟨k, hk, rfl, H⟩ := hrel
    by_cases hlt : k < X.length
    · obtain ⟨b, o, rfl, hbl, hcell⟩ := hX0.at_ hlt
      rw [List.drop_eq_getElem_cons hlt, List.mem_cons] at H
      generalize X[k] = x at *
      by_cases e : x = y
      · have d : (x == y) = true := by simpa using e
        have hfin := Lib.hid (show decide (y ∈ X) = true by simp; exact H.out.2 (.inl e.symm))
        clear e
        go_wp2_with fail
        go_ret
        exact ⟨by rw [hfin.out]; rfl, rfl⟩
      · have d : (x == y) = false := by simpa using e
        have H' := Lib.hid (show y ∈ X ↔ y ∈ X.drop (k + 1) from H.out.trans ⟨fun h => h.resolve_left (fun h => e h.symm), .inr⟩)
        clear e
        go_wp2_with fail
        go_round
        case rel => exact ⟨k + 1, by omega, by go_num, H'⟩
        case measure => simp [intOf]; omega
    · have hk2 : k = X.length := by omega
      have hfin := Lib.hid (show decide (y ∈ X) = false by simp; rw [H.out, hk2, List.drop_length]; simp)
      clear hk2
      go_wp2_with fail
      go_ret
      exact ⟨by rw [hfin.out]; rfl, rfl⟩
/-- every number below m occurs -/
def allIn (X : List Int) : Nat → Nat → Bool
  | _, 0 => true
  | k, m + 1 => decide ((k : Int) ∈ X) && allIn X (k + 1) m
def refPerm (X : List Int) (n : Nat) : Bool := decide (X.length = n) && allIn X 0 n
set_option maxHeartbeats 400000 in
theorem isPerm_any (vx : Value) (X : List Int) (n : Nat) (w : World) (hX : Ints w vx X) (hl : X.length ≤ 1000) (hn : n ≤ 1000) :
    Calls Tryz.prog 21 #[vx, .int .i64 n] w fun e w' => e = .returned (.bool (refPerm X n)) ∧ w = w' := by
  have hX0 := hX
  obtain ⟨A, c, rfl, hc, hh⟩ := hX
  clear hh
  by_cases hlen : X.length = n
  rotate_left
  · have t : ((X.length : Int) != (n : Int)) = true := by simp; omega
    have hfin := Lib.hid (show refPerm X n = false by simp [refPerm, hlen])
    clear hlen
    go_enter Tryz.func21, Tryz.ntmps21
    go_wp2_with fail
    go_ret
    exact ⟨by rw [hfin.out]; rfl, rfl⟩
  have t : ((X.length : Int) != (n : Int)) = false := by simp; omega
  have hfin0 := Lib.hid (show refPerm X n = allIn X 0 (n - 0) by simp [refPerm, hlen])
  clear hlen
  go_enter Tryz.func21, Tryz.ntmps21
  go_wp2_with fail
  clear t
  go_loop [5] (fun i => ∃ k : Nat, k ≤ n ∧ i = .int .i64 k ∧ Hid (refPerm X n = allIn X k (n - k))) (fun i => n - (intOf i).toNat)
  case atStart => exact ⟨0, Nat.zero_le _, rfl, hfin0⟩
  case round =>
    clear hfin0
    obtain ⟨k, hk, rfl, H⟩ := hrel
    by_cases hlt : k < n
    · rw [show n - k = (n - (k + 1)) + 1 from by omega, allIn] at H
      go_wp2_with fail
      refine (in_any _ X k _ hX0 hl).mono ?_
      rintro e w' ⟨rfl, rfl⟩
      by_cases e : (k : Int) ∈ X
      · rw [decide_eq_true e] at H ⊢
        rw [Bool.true_and] at H
        clear e
        go_wp2_with fail
        go_round
        case rel => exact ⟨k + 1, by omega, by go_num, H⟩
        case measure => simp [intOf]; omega
      · rw [decide_eq_false e] at H ⊢
        rw [Bool.false_and] at H
        clear e
        go_wp2_with fail
        go_ret
        exact ⟨by rw [H.out]; rfl, rfl⟩
    · rw [show n - k = 0 from by omega] at H
      go_wp2_with fail
      go_ret
      exact ⟨by rw [H.out]; rfl, rfl⟩
theorem allIn_iff (X : List Int) : ∀ m k, allIn X k m = true ↔ ∀ j, k ≤ j → j < k + m → (j : Int) ∈ X := by
  intro m
  induction m with
  | zero => intro k; simp [allIn]; omega
  | succ m ih =>
    intro k
    rw [allIn, Bool.and_eq_true, ih, decide_eq_true_eq]
    constructor
    · rintro ⟨h1, h2⟩ j hj hj'
      by_cases e : j = k
      · rw [e]; exact h1
      · exact h2 j (by omega) (by omega)
    · intro h
      exact ⟨h k (by omega) (by omega), fun j hj hj' => h j (by omega) (by omega)⟩
theorem perm_of_sub : ∀ (l X : List Int), l.Nodup → l ⊆ X → X.length ≤ l.length → l.Perm X := by
  intro l
  induction l with
  | nil =>
    intro X _ _ h
    cases X with
    | nil => exact .refl _
    | cons x X => simp at h
  | cons a l ih =>
    intro X hn hs hl
    obtain ⟨h1, h2⟩ := List.nodup_cons.1 hn
    have ha : a ∈ X := hs (by simp)
    have hp := List.perm_cons_erase ha
    have hs' : l ⊆ X.erase a := fun x hx => (List.mem_erase_of_ne (fun e => h1 (by rw [← e]; exact hx))).2 (hs (by simp [hx]))
    have hlen : (X.erase a).length ≤ l.length := by rw [List.length_erase_of_mem ha]; simp at hl; omega
    exact ((ih _ h2 hs' hlen).cons a).trans hp.symm
/-- the reference's test is the program's -/
theorem perm_ref (X : List Int) : allIn X 0 X.length = permB X := by
  rw [Bool.eq_iff_iff, allIn_iff, permB_iff]
  constructor
  · intro h
    have hs : (List.range X.length).map (fun i : Nat => (i : Int)) ⊆ X := by
      intro x hx
      obtain ⟨j, hj, rfl⟩ := List.mem_map.1 hx
      exact h j (by omega) (by have := List.mem_range.1 hj; omega)
    have hnd : ((List.range X.length).map (fun i : Nat => (i : Int))).Nodup := by
      rw [List.nodup_iff_pairwise_ne, List.pairwise_iff_getElem]
      intro i j hi hj hlt e
      simp at e
      omega
    have hp : ((List.range X.length).map (fun i : Nat => (i : Int))).Perm X := perm_of_sub _ _ hnd hs (by simp)
    refine ⟨fun x hx => ?_, hp.nodup_iff.1 hnd⟩
    obtain ⟨j, hj, rfl⟩ := List.mem_map.1 (hp.mem_iff.2 hx)
    have := List.mem_range.1 hj
    omega
  · intro h j _ hj
    obtain ⟨k, hk, e⟩ := h.surj (j := j) (by omega)
    rw [← e]; exact List.getElem_mem hk
def refValidB (X O : List Int) : Bool := decide (2 ≤ X.length) && decide (X.length ≤ 40) && refPerm X X.length && refPerm O X.length && neqB X O
theorem refValidB_eq (X O : List Int) : refValidB X O = validB X O := by
  rw [Bool.eq_iff_iff]
  unfold refValidB refPerm
  simp only [Bool.and_eq_true, decide_eq_true_eq, validB]
  constructor
  · rintro ⟨⟨⟨⟨h1, h2⟩, _, h3⟩, h4, h5⟩, h6⟩
    rw [← h4] at h5
    rw [perm_ref] at h3 h5
    exact ⟨⟨⟨⟨⟨h1, h2⟩, h4⟩, h6⟩, h3⟩, h5⟩
  · rintro ⟨⟨⟨⟨⟨h1, h2⟩, h4⟩, h6⟩, h3⟩, h5⟩
    rw [← perm_ref] at h3 h5
    rw [h4] at h5
    exact ⟨⟨⟨⟨h1, h2⟩, trivial, h3⟩, h4, h5⟩, h6⟩
set_option maxHeartbeats 400000 in
theorem column_any (vx : Value) (X : List Int) (y : Int) (w : World) (hX : Ints w vx X) (hl : X.length ≤ 1000) :
    Calls Tryz.prog 22 #[vx, .int .i64 y] w fun e w' => e = .returned (.int .i64 (if y ∈ X then (X.idxOf y : Int) else -1)) ∧ w = w' := by
  have hX0 := hX
  obtain ⟨A, c, rfl, hc, hh⟩ := hX
  clear hh
  generalize hR : (if y ∈ X then (X.idxOf y : Int) else -1) = R
  have HR := Lib.hid hR
  clear hR
  go_enter Tryz.func22, Tryz.ntmps22
  go_wp2_with fail
  go_loop [5] (fun i => ∃ k : Nat, k ≤ X.length ∧ i = .int .i64 k ∧ Hid (∀ j (h : j < X.length), j < k → X[j] ≠ y)) (fun i => X.length - (intOf i).toNat)
  case atStart => exact ⟨0, Nat.zero_le _, rfl, fun j _ h => by omega⟩
  case round =>
    obtain ⟨k, hk, rfl, H⟩ := hrel
    by_cases hlt : k < X.length
    · obtain ⟨b, o, rfl, hbl, hcell⟩ := hX0.at_ hlt
      by_cases e : X[k] = y
      · have d : (X[k] == y) = true := by simpa using e
        have hfin := Lib.hid (show R = k by
          rw [← HR.out, if_pos (by rw [← e]; exact List.getElem_mem hlt)]
          congr 1
          have hidx : X.idxOf y < X.length := List.idxOf_lt_length_of_mem (by rw [← e]; exact List.getElem_mem hlt)
          have h1 : X[X.idxOf y] = y := List.getElem_idxOf hidx
          have h2 : ¬ X.idxOf y < k := fun h => H.out _ hidx h h1
          have h3 : ¬ k < X.idxOf y := fun h => by have := List.not_of_lt_findIdx (show k < X.findIdx (· == y) from h); simp at this; exact this e
          omega)
        clear e
        generalize X[k] = x at *
        go_wp2_with fail
        go_ret
        exact ⟨by rw [hfin.out]; rfl, rfl⟩
      · have d : (X[k] == y) = false := by simpa using e
        have H' := Lib.hid (show ∀ j (h : j < X.length), j < k + 1 → X[j] ≠ y from fun j h hj => by
          by_cases ej : j = k
          · subst ej; exact e
          · exact H.out j h (by omega))
        clear e H
        generalize X[k] = x at *
        go_wp2_with fail
        go_round
        case rel => exact ⟨k + 1, by omega, by go_num, H'⟩
        case measure => simp [intOf]; omega
    · have hfin := Lib.hid (show R = -1 by
        rw [← HR.out, if_neg]
        intro hm
        obtain ⟨j, hj, e⟩ := List.mem_iff_getElem.1 hm
        exact H.out j hj (by omega) e)
      go_wp2_with fail
      go_ret
      exact ⟨by rw [hfin.out]; rfl, rfl⟩
theorem info_int8 : (Tryz.prog.info? 3).map (fun i => (i.zero, i.size, i.bytes)) = some (some (.int .i64 0), 1, 8) := by kernel_rfl
set_option maxHeartbeats 1000000 in
theorem lower_any (vx : Value) (X : List Int) (r : Int) (w : World) (hX : Ints w vx X) (hl : X.length ≤ 1000) (hx : ∀ x ∈ X, -1000 ≤ x ∧ x ≤ 1000) :
    Calls Tryz.prog 98 #[vx, .int .i64 r] w fun e w' => ∃ v, e = .returned v ∧ OwnI 3 w.heap.size w' v (X.map (lowr r)) ∧ Below w.heap.size w w' := by
  obtain ⟨i0, hi0, hz0, hz1, hz2⟩ := info_parts info_int8
  have hX0 := hX
  obtain ⟨A, c, rfl, hc, hh⟩ := hX
  clear hh
  go_enter Tryz.func98, Tryz.ntmps98
  go_wp2_with fail
  go_loopw [5, 6] (fun s i wr => ∃ k : Nat, k ≤ X.length ∧ i = .int .i64 k ∧ OwnI 3 w.heap.size wr s ((X.take k).map (lowr r)) ∧ Below w.heap.size w wr) (fun _ i _ => X.length - (intOf i).toNat)
  case atStart => exact ⟨0, Nat.zero_le _, rfl, OwnI.nil _ _ _, Below.refl _ _⟩
  case round =>
    obtain ⟨k, hk, rfl, hown, hbel⟩ := hrel
    by_cases hlt : k < X.length
    · obtain ⟨b, o, rfl, hbl, hcell⟩ := hX0.at_ hlt
      have hc' := (hbel.cell (p := ⟨b, o + k, none⟩) hbl).trans hcell
      have hb := hx _ (List.getElem_mem hlt)
      have hS := Lib.hid (show (X.take (k + 1)).map (lowr r) = (X.take k).map (lowr r) ++ [lowr r X[k]] by rw [List.take_succ_eq_append_getElem hlt, List.map_append]; rfl)
      have hlk : ((X.take k).map (lowr r)).length ≤ 1000 := by simp; omega
      have hlr := Lib.hid (show lowr r X[k] = if r < X[k] then X[k] - 1 else X[k] from rfl)
      generalize X[k] = x at *
      generalize lowr r x = q at *
      clear hcell
      by_cases e : r < x
      · have hq := Lib.hid (hlr.out.trans (if_pos e))
        go_wp2_with ((at_builtin; refine wpList_appI rfl _ _ 22 rfl Tryz.underlying22 hi0 hz0 hz1 hz2 rfl (hown.alloc _) rfl (Ints.one wr 3 _) (by simp at hlk ⊢; omega) (Nat.le_trans hbel.size (by simp)) ?_; intro v' w1 hown' hb1 hk1))
        have hb2 := (hbel.alloc hbel.size _).trans hb1
        go_roundw
        case rel => exact ⟨k + 1, by omega, by go_num, by rw [hS.out, hq.out]; exact hown', hb2⟩
        case measure => simp [intOf]; omega
      · have hq := Lib.hid (hlr.out.trans (if_neg e))
        have e' : x ≤ r := by omega
        go_wp2_with ((at_builtin; refine wpList_appI rfl _ _ 22 rfl Tryz.underlying22 hi0 hz0 hz1 hz2 rfl (hown.alloc _) rfl (Ints.one wr 3 _) (by simp at hlk ⊢; omega) (Nat.le_trans hbel.size (by simp)) ?_; intro v' w1 hown' hb1 hk1))
        have hb2 := (hbel.alloc hbel.size _).trans hb1
        go_roundw
        case rel => exact ⟨k + 1, by omega, by go_num, by rw [hS.out, hq.out]; exact hown', hb2⟩
        case measure => simp [intOf]; omega
    · have hk2 : X.take k = X := List.take_of_length_le (by omega)
      rw [hk2] at hown
      clear hk2
      go_wp2_with fail
      go_ret
      exact ⟨_, rfl, hown, hbel⟩
end Go.Proofs.YteliflcbegcdlaaGreatDoor

namespace Go.Proofs.YteliflcbegcdlaaGreatDoor
set_option linter.unusedVariables false
open Go.RowKit
section
variable {e : TypeId} {base : Nat} {w w' : World} {v : Value} {xs : List Int}
end
section
variable {P : Program} {w : World} {e : TypeId} {base : Nat} {v : Value} {xs : List Int}
end
end Go.Proofs.YteliflcbegcdlaaGreatDoor

namespace Go.Proofs.YteliflcbegcdlaaGreatDoor
open Go.RowKit
set_option linter.unusedVariables false
theorem setCells_row {e : TypeId} {g : Nat} : ∀ (vs : List Value) (o : Nat) (w : World) (cur : Array Value), w.heap[g]? = some (.cells cur e (0, 0)) → o + vs.length ≤ cur.size →
    ∃ cur' : Array Value, (w.setCells g o vs).heap[g]? = some (.cells cur' e (0, 0)) ∧ cur'.size = cur.size ∧ (∀ i, i < o ∨ o + vs.length ≤ i → cur'[i]? = cur[i]?) ∧ ∀ (j : Nat) u, vs[j]? = some u → cur'[o + j]? = some u
  | [], o, w, cur, h, hs => ⟨cur, h, rfl, fun _ _ => rfl, fun j u hj => by simp at hj⟩
  | v :: vs, o, w, cur, h, hs => by
    simp only [List.length_cons] at hs
    obtain ⟨cur', h1, h2, h3, h4⟩ := setCells_row vs (o + 1) (w.setCell ⟨g, o, none⟩ v) (cur.setIfInBounds o v) (heap_setCell_same w g o cur e v h) (by simp; omega)
    refine ⟨cur', h1, by simpa using h2, fun i hi => ?_, fun j u hj => ?_⟩
    · simp only [List.length_cons] at hi
      rw [h3 i (by omega), Array.getElem?_setIfInBounds, if_neg (by omega)]
    · cases j with
      | zero =>
        simp at hj; subst hj
        rw [h3 _ (by omega), Nat.add_zero, Array.getElem?_setIfInBounds, if_pos rfl]
        simp; omega
      | succ j =>
        have := h4 j u (by simpa using hj)
        rw [show o + (j + 1) = o + 1 + j by omega]; exact this
theorem below_setCells {B g : Nat} (hg : B ≤ g) : ∀ (vs : List Value) (o : Nat) (w0 w : World), Below B w0 w → Below B w0 (w.setCells g o vs)
  | [], _, _, _, h => h
  | v :: vs, o, w0, w, h => below_setCells hg vs (o + 1) w0 _ (h.setCell (p := ⟨g, o, none⟩) hg v)
theorem heap_setCells_far {g k : Nat} (hk : k ≠ g) : ∀ (vs : List Value) (o : Nat) (w : World), (w.setCells g o vs).heap[k]? = w.heap[k]?
  | [], _, _ => rfl
  | v :: vs, o, w => (heap_setCells_far hk vs (o + 1) _).trans (Below.heap_setCell w ⟨g, o, none⟩ _ k (fun e => hk e))
section
variable {α : Type}
def IsSl (q : Value) : Prop := ∃ A n c, q = .slice A n c
/-- v is a part of a block of the call's own, from block base on, that holds xs; the block holds slices alone -/
def QA (e : TypeId) (sz : Nat) (enc : α → List Value) (base : Nat) (w : World) (v : Value) (xs : List α) : Prop :=
  (v = .slice none 0 0 ∧ xs = []) ∨ ∃ g o c cur, v = .slice (some ⟨g, o, none⟩) xs.length c ∧ base ≤ g ∧ w.heap[g]? = some (.cells cur e (0, 0)) ∧ xs.length ≤ c ∧ o + c * sz ≤ cur.size ∧ (∀ (i : Nat) q, cur[i]? = some q → IsSl q) ∧ ∀ (j : Nat) q, (xs.flatMap enc)[j]? = some q → cur[o + j]? = some q
/-- the block of a slice, wherever it begins -/
def sBlk : Value → Option Nat
  | .slice (some ad) _ _ => some ad.block
  | _ => none
variable {e : TypeId} {sz : Nat} {enc : α → List Value} {base : Nat} {w w' : World} {v u : Value} {xs ys : List α}
theorem QA.nil (e : TypeId) (sz : Nat) (enc : α → List Value) (base : Nat) (w : World) : QA e sz enc base w (.slice none 0 0) [] := .inl ⟨rfl, rfl⟩
theorem QA.lt (h : QA e sz enc base w v xs) : ∀ k, sBlk v = some k → k < w.heap.size := by
  intro k hk
  rcases h with ⟨rfl, _⟩ | ⟨g, o, c, cur, rfl, _, hh, _⟩
  · cases hk
  · injection hk with hk; subst hk; exact (Array.getElem?_eq_some_iff.1 hh).1
theorem QA.block (h : QA e sz enc base w v xs) : ∀ k, sBlk v = some k → base ≤ k := by
  intro k hk
  rcases h with ⟨rfl, _⟩ | ⟨g, o, c, cur, rfl, hb, _⟩
  · cases hk
  · injection hk with hk; subst hk; exact hb
theorem QA.typ (h : QA e sz enc base w v xs) : ∀ k, sBlk v = some k → ∃ cs fr, w.heap[k]? = some (.cells cs e fr) := by
  intro k hk
  rcases h with ⟨rfl, _⟩ | ⟨g, o, c, cur, rfl, hb, hh, _⟩
  · cases hk
  · injection hk with hk; subst hk; exact ⟨_, _, hh⟩
theorem QA.keepK (h : QA e sz enc base w v xs) (hk : ∀ k, sBlk v = some k → w'.heap[k]? = w.heap[k]?) : QA e sz enc base w' v xs := by
  rcases h with h | ⟨g, o, c, cur, rfl, hb, hh, r⟩
  · exact .inl h
  · exact .inr ⟨g, o, c, cur, rfl, hb, (hk g rfl).trans hh, r⟩
theorem QA.below (h : QA e sz enc base w v xs) (hb : Below w.heap.size w w') : QA e sz enc base w' v xs := h.keepK fun k hk => hb.block k (h.lt k hk)
theorem QA.low {b2 : Nat} (h : QA e sz enc base w v xs) (hb : b2 ≤ base) : QA e sz enc b2 w v xs := by
  rcases h with h | ⟨g, o, c, cur, rfl, hb2, hh, r⟩
  · exact .inl h
  · exact .inr ⟨g, o, c, cur, rfl, Nat.le_trans hb hb2, hh, r⟩
theorem QA.up {b2 : Nat} (h : QA e sz enc base w v xs) (hb : ∀ k, sBlk v = some k → b2 ≤ k) : QA e sz enc b2 w v xs := by
  rcases h with h | ⟨g, o, c, cur, rfl, hb2, hh, r⟩
  · exact .inl h
  · exact .inr ⟨g, o, c, cur, rfl, hb g rfl, hh, r⟩
theorem QA.form (h : QA e sz enc base w v xs) : ∃ A c, v = .slice A xs.length c := by
  rcases h with ⟨rfl, rfl⟩ | ⟨g, o, c, cur, rfl, _⟩
  · exact ⟨none, 0, rfl⟩
  · exact ⟨_, _, rfl⟩
/-- the head of a queue that is not empty, and the queue cut at it -/
theorem QA.cons {x : α} (hsz : ∀ x, (enc x).length = sz) (h : QA e sz enc base w v (x :: xs)) : ∃ g o c, v = .slice (some ⟨g, o, none⟩) (xs.length + 1) (c + 1) ∧ base ≤ g ∧ (∀ j q, (enc x)[j]? = some q → w.cell? ⟨g, o + j, none⟩ = some q) ∧
    ∀ A, (A = some ⟨g, o, none⟩ ∧ c = 0 ∨ A = some ⟨g, o + sz, none⟩) → QA e sz enc base w (.slice A xs.length c) xs := by
  rcases h with ⟨_, h⟩ | ⟨g, o, c, cur, rfl, hb, hh, hc, hs, hsl, hx⟩
  · cases h
  · simp only [List.length_cons] at hc ⊢
    obtain ⟨c, rfl⟩ : ∃ c', c = c' + 1 := ⟨c - 1, by omega⟩
    refine ⟨g, o, c, rfl, hb, fun j q hq => ?_, ?_⟩
    · rw [cell_of_row w g _ cur e (0, 0) hh]
      exact hx j q (by rw [List.flatMap_cons, List.getElem?_append_left (List.getElem?_eq_some_iff.1 hq).1]; exact hq)
    · rw [Nat.succ_mul] at hs
      rintro A (⟨rfl, rfl⟩ | rfl)
      · have : xs = [] := List.eq_nil_of_length_eq_zero (by omega)
        subst this
        exact .inr ⟨g, o, 0, cur, rfl, hb, hh, Nat.le_refl _, by omega, hsl, fun j q hq => by simp at hq⟩
      · refine .inr ⟨g, o + sz, c, cur, rfl, hb, hh, by omega, by omega, hsl, fun j q hq => ?_⟩
        have := hx (sz + j) q (by rw [List.flatMap_cons, List.getElem?_append_right (by rw [hsz]; omega), hsz, Nat.add_sub_cancel_left]; exact hq)
        rw [Nat.add_assoc]; exact this
/-- the block holds no integers -/
theorem QA.noint (h : QA e sz enc base w v xs) {k i : Nat} {q : Value} (hk : sBlk v = some k) (hc : w.cell? ⟨k, i, none⟩ = some q) : IsSl q := by
  rcases h with ⟨rfl, _⟩ | ⟨g, o, c, cur, rfl, hb, hh, _, _, hsl, _⟩
  · cases hk
  · injection hk with hk; subst hk
    rw [cell_of_row w g _ cur e (0, 0) hh] at hc
    exact hsl _ _ hc
/-- what a kind of element of slices owes -/
structure ElQ (P : Program) (e : TypeId) (sz : Nat) (enc : α → List Value) : Prop extends ElA P e sz enc where
  esl : ∀ x, ∀ q ∈ enc x, IsSl q
  zsl : ∀ i z, P.info? e = some i → i.zero = some z → ∀ q ∈ z.cells, IsSl q
theorem mem_zeroCells {cs : Array Value} {k : Nat} {q : Value} (h : q ∈ Builtin.zeroCells cs k) : q ∈ cs := by
  unfold Builtin.zeroCells at h
  obtain ⟨i, hi, rfl⟩ := Array.mem_map.1 h
  have hi := Array.mem_range.1 hi
  have hp : 0 < cs.size := by
    rcases Nat.eq_zero_or_pos cs.size with h0 | h0
    · rw [h0] at hi; simp at hi
    · exact h0
  have hlt := Nat.mod_lt i hp
  rw [getElem!_pos cs _ hlt]
  exact Array.getElem_mem hlt
/-- the run of append(v, u...) -/
theorem run_appQA {P : Program} (E : ElQ P e sz enc) {t ty : TypeId} (ht : P.underlying t = some (.slice e))
    (h : QA e sz enc base w v xs) (hu : SlA enc w u ys) (hn : ys ≠ []) (hlen : xs.length + ys.length ≤ 100000000) (hbase : base ≤ w.heap.size) :
    ∃ v' w', (Builtin.append_ #[t, t] ty #[v, u]).run P w = .ok v' w' ∧ QA e sz enc base w' v' (xs ++ ys) ∧ Below base w w' ∧ (∀ k, k < w.heap.size → sBlk v ≠ some k → w'.heap[k]? = w.heap[k]?) ∧ (sBlk v' = sBlk v ∨ sBlk v' = some w.heap.size) := by
  obtain ⟨i, z, bytes, hi, hz, hs, hby, hzs, hb16⟩ := E.ex
  obtain ⟨A, c2, rfl, hc2, hy⟩ := hu
  have hfl : ∀ l : List α, (l.flatMap enc).length = l.length * sz := fun l => by
    induction l with
    | nil => simp
    | cons x xs ih => rw [List.flatMap_cons, List.length_append, ih, E.len x, List.length_cons, Nat.succ_mul]; omega
  have hpos : 0 < ys.length := by cases ys with | nil => exact absurd rfl hn | cons y ys => simp
  obtain ⟨ad, hA⟩ : ∃ ad, A = some ad := by
    have h0 : 0 < (ys.flatMap enc).length := by rw [hfl]; exact Nat.mul_pos hpos E.pos
    obtain ⟨b, o, hA, _⟩ := hy 0 _ (List.getElem?_eq_getElem h0)
    exact ⟨_, hA⟩
  subst hA
  have hcells : ∀ j q, (ys.flatMap enc)[j]? = some q → w.cell? (ad.add j) = some q := by
    intro j q hq
    obtain ⟨b, o, hA, hcell⟩ := hy j q hq
    injection hA with hA
    subst hA
    have : (⟨b, o, none⟩ : Addr).add j = ⟨b, o + j, none⟩ := by unfold Addr.add; split <;> simp_all
    rw [this]; exact hcell
  have hone : ∀ q ∈ ys.flatMap enc, q.oneCell' = true := fun q hq => by obtain ⟨y, hy, hq2⟩ := List.mem_flatMap.1 hq; exact E.one y q hq2
  have hesl : ∀ (l : List α), ∀ q ∈ l.flatMap enc, IsSl q := fun l q hq => by obtain ⟨y, hy, hq2⟩ := List.mem_flatMap.1 hq; exact E.esl y q hq2
  have src : Src P i.size t (.slice (some ad) ys.length c2) ys.length (ys.flatMap enc) w := Src.ofSlice w ht _ _ _ _ (by rw [hs, hfl]) hcells hone
  -- a new block
  have grown : ∀ (bs : Option Addr) (old : Nat), old < xs.length + ys.length → (Builtin.firstCells i.size xs.length (.slice bs xs.length old)).run P w.drew = .ok (xs.flatMap enc).toArray w.drew →
      ∃ v' w', (Builtin.append_ #[t, t] ty #[.slice bs xs.length old, .slice (some ad) ys.length c2]).run P w = .ok v' w' ∧ QA e sz enc base w' v' (xs ++ ys) ∧ Below base w w' ∧ (∀ k, k < w.heap.size → w'.heap[k]? = w.heap[k]?) ∧ sBlk v' = some w.heap.size := by
    intro bs old hold hfc
    have hncap : Builtin.nextslicecap (xs.length + ys.length) old * i.bytes ≤ 281474976710656 := by
      have h1 := nextslicecap_le_wide (need := xs.length + ys.length) (old := old) hold
      rw [hby]
      exact Nat.le_trans (Nat.mul_le_mul h1 hb16) (by omega)
    have hr := run_append_grow_src (P := P) w t t ty e i z ht hi hz bs xs.length old (xs.flatMap enc) hfc (.slice (some ad) ys.length c2) ys.length (ys.flatMap enc) src hold (by omega) hncap
    have hge : xs.length + ys.length ≤ grownCap w (xs.length + ys.length) old e := grownCap_ge w _ _ _
    refine ⟨_, _, hr, .inr ⟨w.heap.size, 0, _, _, by rw [List.length_append], hbase, heap_alloc_new w.drew _, by rw [List.length_append]; exact hge, ?_, fun j q hq => ?_, fun j q hq => ?_⟩, Below.alloc (a := w) (w := w.drew) (bdrewN (Below.refl _ _) 1) hbase _, fun k hk => Below.heap_alloc w.drew _ k hk, rfl⟩
    · rw [Array.size_append, size_zeroCells, hzs]
      simp only [List.size_toArray, List.length_append, hfl]
      rw [← Nat.add_mul, ← Nat.add_mul]
      rw [Nat.zero_add]
      refine Nat.mul_le_mul_right sz ?_
      omega
    · have hm := Array.mem_of_getElem? hq
      rcases Array.mem_append.1 hm with q1 | q1
      · have q2 : q ∈ xs.flatMap enc ++ ys.flatMap enc := by simpa using q1
        rcases List.mem_append.1 q2 with q3 | q3
        · exact hesl _ q q3
        · exact hesl _ q q3
      · exact E.zsl i z hi hz q (mem_zeroCells q1)
    · rw [List.flatMap_append] at hq
      rw [Nat.zero_add, Array.getElem?_append_left (by have := (List.getElem?_eq_some_iff.1 hq).1; rw [List.length_append] at this; simpa using this)]
      simpa using hq
  rcases h with ⟨rfl, rfl⟩ | ⟨g, o, c, cur, rfl, hb, hh, hc, hsz, hsl, hx⟩
  · obtain ⟨v', w', h1, h2, h3, h4, h5⟩ := grown none 0 (by simpa using hpos) (by
      have := run_firstCells_none (P := P) w.drew i.size 0 0 0
      simpa using this)
    exact ⟨v', w', h1, h2, h3, fun k hk _ => h4 k hk, .inr h5⟩
  · have hlt : g < w.heap.size := (Array.getElem?_eq_some_iff.1 hh).1
    by_cases hroom : xs.length + ys.length ≤ c
    · have hin : o + (xs.length * sz + ys.length * sz) ≤ cur.size := by
        have := Nat.mul_le_mul_right sz hroom
        rw [Nat.add_mul] at this; omega
      have hr := run_append_room_src (P := P) w t t ty e i ht hi g o xs.length c (.slice (some ad) ys.length c2) ys.length (ys.flatMap enc) src hroom
        (by
          intro j hj
          rw [hfl] at hj
          rw [hs, cell_of_row w g _ cur e (0, 0) hh, Array.getElem?_eq_getElem (by omega)]; rfl) (by intro j hj; exact frozen_of_row w g _ cur e hh)
      rw [hs] at hr
      obtain ⟨cur', k1, k2, k3, k4⟩ := setCells_row (ys.flatMap enc) (o + xs.length * sz) w cur hh (by rw [hfl]; omega)
      have hbel : Below base w (w.setCells g (o + xs.length * sz) (ys.flatMap enc)) := below_setCells hb _ _ _ _ (Below.refl base w)
      refine ⟨_, _, hr, .inr ⟨g, o, c, cur', by rw [List.length_append], hb, k1, by rw [List.length_append]; exact hroom, by rw [k2]; exact hsz, fun j q hq => ?_, fun j q hq => ?_⟩, hbel, fun k hk hne => heap_setCells_far (fun e => hne (by rw [e]; rfl)) _ _ _, .inl rfl⟩
      · by_cases hj : j < o + xs.length * sz ∨ o + xs.length * sz + (ys.flatMap enc).length ≤ j
        · rw [k3 j hj] at hq; exact hsl _ _ hq
        · have hlt2 : j - (o + xs.length * sz) < (ys.flatMap enc).length := by omega
          have h4 := k4 _ _ (List.getElem?_eq_getElem hlt2)
          rw [show o + xs.length * sz + (j - (o + xs.length * sz)) = j by omega, hq] at h4
          injection h4 with h4
          rw [h4]
          exact hesl _ _ (List.getElem_mem hlt2)
      · rw [List.flatMap_append] at hq
        rcases Nat.lt_or_ge j (xs.flatMap enc).length with hj | hj
        · rw [List.getElem?_append_left hj] at hq
          rw [k3 _ (.inl (by rw [hfl] at hj; omega))]
          exact hx j q hq
        · rw [List.getElem?_append_right hj] at hq
          have := k4 _ q hq
          rw [hfl] at hj this
          rw [show o + xs.length * sz + (j - xs.length * sz) = o + j by omega] at this
          exact this
    · obtain ⟨v', w', h1, h2, h3, h4, h5⟩ := grown (some ⟨g, o, none⟩) c (by omega) (run_firstCells_some (P := P) w.drew i.size xs.length ⟨g, o, none⟩ xs.length c (xs.flatMap enc) (by rw [hs, hfl]) (by
        intro j u hj
        have : (⟨g, o, none⟩ : Addr).add j = ⟨g, o + j, none⟩ := by unfold Addr.add; split <;> simp_all
        rw [this]
        show w.cell? _ = _
        rw [cell_of_row w g _ cur e (0, 0) hh]
        exact hx j u hj))
      exact ⟨v', w', h1, h2, h3, fun k hk _ => h4 k hk, .inr h5⟩
theorem wp_appQA {P : Program} {o : Oper} {a : Act} {K : Act → World → Prop} {Q : Exit → Act → World → Prop} (E : ElQ P e sz enc) (s x : Operand) (t t2 : TypeId) (ho : o.op = .call { callee := .builtin .append, args := #[s, x], argTypes := #[t, t2] })
    (ht : P.underlying t = some (.slice e)) (ht2 : P.underlying t2 = some (.slice e))
    (hv : a.eval s = v) (h : QA e sz enc base w v xs) (hx : a.eval x = u) (hu : SlA enc w u ys) (hn : ys ≠ []) (hlen : xs.length + ys.length ≤ 100000000) (hbase : base ≤ w.heap.size)
    (hK : ∀ v' w', QA e sz enc base w' v' (xs ++ ys) → Below base w w' → (∀ k, k < w.heap.size → sBlk v ≠ some k → w'.heap[k]? = w.heap[k]?) → (sBlk v' = sBlk v ∨ sBlk v' = some w.heap.size) → K (a.put o.dst v') w') : o.wp P a w K Q := by
  obtain ⟨v', w', hrun, h1, h2, h3, h4⟩ := run_appQA (P := P) (ty := o.type) E ht h hu hn hlen hbase
  unfold Oper.wp execOp
  simp only [ho, resolve, invoke, builtin, Sem.run_bind, Sem.run_pure, Result.andThen_ok, List.map_toArray, List.map_cons, List.map_nil, hv, hx, (append_typesA ht ht2).trans hrun]
  exact hK v' w' h1 h2 h3 h4
end
/-- what an append to v0 has left as it was; v: the slice that came -/
structure KptQ (B : Nat) (w0 w : World) (v0 v : Value) : Prop where
  bel : Below B w0 w
  keep : ∀ k, k < w0.heap.size → sBlk v0 ≠ some k → w.heap[k]? = w0.heap[k]?
  blk : ∀ k, sBlk v = some k → sBlk v0 = some k ∨ w0.heap.size ≤ k
section
variable {α : Type}
/-- c: the literal; a: the append; f: the store at p -/
structure ApQ (e : TypeId) (sz : Nat) (enc : α → List Value) (B : Nat) (w0 : World) (ev : Nat → Option Value) (c a f : Nat) (v0 : Value) (p : Addr) (L LIT : List α) (D : Nat → Bool) (x : Nat → Value) (w : World) : Prop where
  kn : ∀ i v, ev i = some v → D i = true → x i = v
  pre : D a = false → D f = false → Below w0.heap.size w0 w
  lit : D c = true → D a = false → D f = false → OwnA e sz enc w0.heap.size w (x c) LIT
  mid : D a = true → D f = false → QA e sz enc B w (x a) (L ++ LIT) ∧ KptQ B w0 w v0 (x a)
  fin : D f = true → ∃ W v, w = W.setCell p v ∧ QA e sz enc B W v (L ++ LIT) ∧ KptQ B w0 W v0 v
variable {e : TypeId} {sz : Nat} {enc : α → List Value} {B : Nat} {w0 w w' : World} {ev : Nat → Option Value} {c a f : Nat} {v0 : Value} {p : Addr} {L LIT : List α} {D : Nat → Bool} {x : Nat → Value}
theorem ApQ.start : ApQ e sz enc B w0 ev c a f v0 p L LIT (fun _ => false) x w0.drew :=
  ⟨fun i v _ h => Bool.noConfusion h, fun _ _ => (Below.refl _ _).drew, fun h => Bool.noConfusion h, fun h => Bool.noConfusion h, fun h => Bool.noConfusion h⟩
theorem ApQ.val (h : ApQ e sz enc B w0 ev c a f v0 p L LIT D x w) {i : Nat} {v : Value} (hv : ev i = some v) (h1 : i ≠ c) (h2 : i ≠ a) (h3 : i ≠ f) : ApQ e sz enc B w0 ev c a f v0 p L LIT (upd D i true) (upd x i v) w := by
  refine ⟨fun j u hu hd => ?_, fun d1 d2 => ?_, fun d1 d2 d3 => ?_, fun d1 d2 => ?_, fun d => ?_⟩
  · by_cases e : j = i
    · subst e; rw [upd_same]; rw [hv] at hu; injection hu
    · rw [upd_ne _ _ e] at hd ⊢; exact h.kn j u hu hd
  · rw [upd_ne _ _ (Ne.symm h2)] at d1; rw [upd_ne _ _ (Ne.symm h3)] at d2; exact h.pre d1 d2
  · rw [upd_ne _ _ (Ne.symm h1)] at d1 ⊢; rw [upd_ne _ _ (Ne.symm h2)] at d2; rw [upd_ne _ _ (Ne.symm h3)] at d3; exact h.lit d1 d2 d3
  · rw [upd_ne _ _ (Ne.symm h2)] at d1 ⊢; rw [upd_ne _ _ (Ne.symm h3)] at d2; exact h.mid d1 d2
  · rw [upd_ne _ _ (Ne.symm h3)] at d; exact h.fin d
theorem ApQ.call (h : ApQ e sz enc B w0 ev c a f v0 p L LIT D x w) {v : Value} (hev : ev c = none) (h1 : c ≠ a) (h2 : c ≠ f) (ha : D a = false) (hf : D f = false) (hb : Below w.heap.size w w') (ho : OwnA e sz enc w.heap.size w' v LIT) : ApQ e sz enc B w0 ev c a f v0 p L LIT (upd D c true) (upd x c v) w' := by
  have hp := h.pre ha hf
  refine ⟨fun j u hu hd => ?_, fun d1 d2 => hp.trans (hb.mono hp.size), fun d1 d2 d3 => by rw [upd_same]; exact ho.low hp.size, fun d1 d2 => ?_, fun d => ?_⟩
  · have e : j ≠ c := fun e => (by rw [e, hev] at hu; cases hu)
    rw [upd_ne _ _ e] at hd ⊢; exact h.kn j u hu hd
  · rw [upd_ne _ _ (Ne.symm h1), ha] at d1; cases d1
  · rw [upd_ne _ _ (Ne.symm h2), hf] at d; cases d
theorem ApQ.app {P : Program} (E : ElQ P e sz enc) (h : ApQ e sz enc B w0 ev c a f v0 p L LIT D x w) {o : Oper} {b : Act} (sx ux : Operand) (t t2 : TypeId) (ho : o.op = .call { callee := .builtin .append, args := #[sx, ux], argTypes := #[t, t2] })
    (ht : P.underlying t = some (.slice e)) (ht2 : P.underlying t2 = some (.slice e)) (hev : ev a = none) (hca : c ≠ a) (haf : a ≠ f) (hc : D c = true) (ha : D a = false) (hf : D f = false)
    (he1 : b.eval sx = v0) (he2 : b.eval ux = x c) (hv0 : QA e sz enc B w0 v0 L) (hn : LIT ≠ []) (hB : B ≤ w0.heap.size) (hlen : L.length + LIT.length ≤ 100000000) : o.wp P b w (StepPost (ApQ e sz enc B w0 ev c a f v0 p L LIT) D x a b o.dst) NoQ := by
  have hp := h.pre ha hf
  have hl := h.lit hc ha hf
  refine wp_appQA (P := P) (base := B) E sx ux t t2 ho ht ht2 he1 (hv0.below hp) he2 hl.sl hn hlen (Nat.le_trans hB hp.size) ?_
  intro v' w' h1 h2 h3 h4
  refine ⟨v', rfl, fun j u hu hd => ?_, fun d1 d2 => ?_, fun d1 d2 d3 => ?_, fun d1 d2 => ?_, fun d => ?_⟩
  · have e : j ≠ a := fun e => (by rw [e, hev] at hu; cases hu)
    rw [upd_ne _ _ e] at hd ⊢; exact h.kn j u hu hd
  · rw [upd_same] at d1; cases d1
  · rw [upd_same] at d2; cases d2
  · rw [upd_same]
    refine ⟨h1, (hp.mono hB).trans h2, fun k hk hne => (h3 k (Nat.lt_of_lt_of_le hk hp.size) hne).trans (hp.block k hk), fun k hk => ?_⟩
    rcases h4 with q | q
    · rw [q] at hk; exact .inl hk
    · rw [q] at hk
      injection hk with hk
      subst hk
      exact .inr hp.size
  · rw [upd_ne _ _ (Ne.symm haf), hf] at d; cases d
theorem ApQ.store (h : ApQ e sz enc B w0 ev c a f v0 p L LIT D x w) (hev : ev f = none) (ha : D a = true) (hf : D f = false) (v : Value) : ApQ e sz enc B w0 ev c a f v0 p L LIT (upd D f true) (upd x f v) (w.setCell p (x a)) := by
  obtain ⟨m1, m2⟩ := h.mid ha hf
  refine ⟨fun j u hu hd => ?_, fun d1 d2 => ?_, fun d1 d2 d3 => ?_, fun d1 d2 => ?_, fun d => ⟨w, x a, rfl, m1, m2⟩⟩
  · have e : j ≠ f := fun e => (by rw [e, hev] at hu; cases hu)
    rw [upd_ne _ _ e] at hd ⊢; exact h.kn j u hu hd
  · rw [upd_same] at d2; cases d2
  · rw [upd_same] at d3; cases d3
  · rw [upd_same] at d2; cases d2
theorem KptQ.arr {g : Nat} {t : TypeId} {cs : List Value} {v : Value} (h : KptQ B w0 w v0 v) (hg : Arr w0 g t cs) (hne : sBlk v0 ≠ some g) : Arr w g t cs := (h.keep g hg.lt hne).trans hg
/-- a block that the append does not write, at any time before the store -/
theorem ApQ.arrK (h : ApQ e sz enc B w0 ev c a f v0 p L LIT D x w) (hf : D f = false) {g : Nat} {t : TypeId} {cs : List Value} (hg : Arr w0 g t cs) (hne : sBlk v0 ≠ some g) : Arr w g t cs := by
  cases ha : D a with
  | false => exact hg.below (h.pre ha hf) hg.lt
  | true => exact (h.mid ha hf).2.arr hg hne
end
end Go.Proofs.YteliflcbegcdlaaGreatDoor

namespace Go.Proofs.YteliflcbegcdlaaGreatDoor
set_option linter.unusedVariables false
open Go.RowKit
theorem step_growI {P : Program} {ops : Array Oper} {o : Oper} {a : Act} {w : World} {K : Act → World → Prop} {Q : Exit → Act → World → Prop} {E : Prop} (hgd : o.guard = none) (s x : Operand) (t : TypeId) (ho : o.op = .call { callee := .builtin .append, args := #[s, x], argTypes := #[t, t] })
    {e : TypeId} {i : TypeInfo} (ht : P.underlying t = some (.slice e)) (hi : P.info? e = some i) (hz : i.zero = some (.int .i64 0)) (hs : i.size = 1) (hby : i.bytes = 8)
    (g : Nat) (hv : a.eval s = .slice (some ⟨g, 0, none⟩) 0 0) {u : Value} {ys : List Int} (hx : a.eval x = u) (hu : Ints w u ys) (hne : 0 < ys.length) (hlen : ys.length ≤ 1000000000)
    (hK : ∀ v' w', OwnI e w.heap.size w' v' ys → Below w.heap.size w w' → K (a.put o.dst v') w') : if Region.wanted o (yielded ops a.tmps) = true then Oper.wp P o a w K Q else E := by
  obtain ⟨A, c, rfl, hc, hcell⟩ := hu
  cases A with
  | none =>
    obtain ⟨b, o, hA, _⟩ := hcell 0 _ (List.getElem?_eq_getElem hne)
    cases hA
  | some ad =>
    have hcells : ∀ j q, (ys.map (Value.int .i64))[j]? = some q → w.cell? (ad.add j) = some q := by
      intro j q hq
      rw [List.getElem?_map] at hq
      cases hy : ys[j]? with
      | none => rw [hy] at hq; cases hq
      | some y =>
        rw [hy] at hq
        injection hq with hq
        obtain ⟨b, o, hA, hc1⟩ := hcell j y hy
        injection hA with hA
        subst hA
        rw [← hq]
        have : (⟨b, o, none⟩ : Addr).add j = ⟨b, o + j, none⟩ := by unfold Addr.add; split <;> simp_all
        rw [this]; exact hc1
    refine step_append_grows hgd s x t ho e i (.int .i64 0) 1 8 ht hi hz hs hby rfl (by decide) (some ⟨g, 0, none⟩) 0 0 [] hv (fun h => by cases h) rfl (fun b _ j u hj => by simp at hj) ad ys.length c (ys.map (Value.int .i64)) hx (by simp) hcells
      (by intro q hq; obtain ⟨y, _, rfl⟩ := List.mem_map.1 hq; rfl) (by omega) (by unfold maxLen; omega) (by omega) ?_
    intro v' w' h1 h2
    refine hK v' w' ?_ ⟨h2.os, h2.tape, h2.output, h2.size, fun k hk => h2.block k hk (by simp)⟩
    unfold OwnI
    simpa using h1
theorem wp_growI {P : Program} {o : Oper} {a : Act} {w : World} {K : Act → World → Prop} {Q : Exit → Act → World → Prop} (hgd : o.guard = none) (s x : Operand) (t : TypeId) (ho : o.op = .call { callee := .builtin .append, args := #[s, x], argTypes := #[t, t] })
    {e : TypeId} {i : TypeInfo} (ht : P.underlying t = some (.slice e)) (hi : P.info? e = some i) (hz : i.zero = some (.int .i64 0)) (hs : i.size = 1) (hby : i.bytes = 8)
    (g : Nat) (hv : a.eval s = .slice (some ⟨g, 0, none⟩) 0 0) {u : Value} {ys : List Int} (hx : a.eval x = u) (hu : Ints w u ys) (hne : 0 < ys.length) (hlen : ys.length ≤ 1000000000)
    (hK : ∀ v' w', OwnI e w.heap.size w' v' ys → Below w.heap.size w w' → K (a.put o.dst v') w') : Oper.wp P o a w K Q := by
  have h := step_growI (ops := #[]) (E := True) (Q := Q) hgd s x t ho ht hi hz hs hby g hv hx hu hne hlen hK
  rwa [if_pos (by simp [Region.wanted, hgd])] at h
theorem ownI_ne {e e' : TypeId} {base : Nat} {w w' : World} {v v' : Value} {xs ys : List Int} (h : OwnI e base w v xs) (h' : OwnI e' w.heap.size w' v' ys) (hne : 0 < ys.length) : v'.ownBlock ≠ v.ownBlock := by
  intro he
  rcases h'.2 with ⟨rfl, h0⟩ | ⟨g, cap, cur, rfl, hg, _⟩
  · omega
  · rcases h.2 with ⟨rfl, h0⟩ | ⟨g', cap', cur', rfl, _, hh, _⟩
    · simp [Value.ownBlock] at he
    · simp [Value.ownBlock] at he
      subst he
      rw [Array.getElem?_eq_none hg] at hh
      cases hh
theorem ownI_arr_ne {e t : TypeId} {base g : Nat} {w : World} {v : Value} {xs : List Int} {cs : List Value} (h : OwnI e base w v xs) (ha : Arr w g t cs) (ht : e ≠ t) : v.ownBlock ≠ some g := by
  intro he
  rcases h.2 with ⟨rfl, h0⟩ | ⟨g', cap', cur', rfl, _, hh, _⟩
  · simp [Value.ownBlock] at he
  · simp [Value.ownBlock] at he
    subst he
    unfold Arr at ha
    rw [ha] at hh
    simp only [Option.some.injEq, Obj.cells.injEq] at hh
    exact ht hh.2.1.symm
theorem OwnI.far {e : TypeId} {base : Nat} {w : World} {v : Value} {xs : List Int} (h : OwnI e base w v xs) {p : Addr} (hp : v.ownBlock ≠ some p.block) (u : Value) : OwnI e base (w.setCell p u) v xs := ownsRow_setCell_other h hp u
theorem OwnI.set {e : TypeId} {base g n c : Nat} {w : World} {xs : List Int} (h : OwnI e base w (.slice (some ⟨g, 0, none⟩) n c) xs) (j : Nat) (y : Int) : OwnI e base (w.setCell ⟨g, j, none⟩ (.int .i64 y)) (.slice (some ⟨g, 0, none⟩) n c) (xs.set j y) := by
  obtain ⟨A, c', hv⟩ := h.form
  injection hv with _ hn _
  subst hn
  have := (World.ownsRow.stored h j (.int .i64 y)).1
  unfold OwnI
  rw [List.length_set, List.map_set]
  exact this
theorem OwnI.form1 {e : TypeId} {base : Nat} {w : World} {v : Value} {xs : List Int} (h : OwnI e base w v xs) (hx : 0 < xs.length) : ∃ g c, v = .slice (some ⟨g, 0, none⟩) xs.length c ∧ base ≤ g ∧ g < w.heap.size := by
  rcases h.2 with ⟨rfl, h0⟩ | ⟨g, cap, cur, rfl, hg, hh, _⟩
  · omega
  · refine ⟨g, cap, rfl, hg, ?_⟩
    rcases Nat.lt_or_ge g w.heap.size with hlt | hge
    · exact hlt
    · rw [Array.getElem?_eq_none hge] at hh; cases hh
theorem OwnI.at_ {e : TypeId} {base g n c : Nat} {w : World} {xs : List Int} (h : OwnI e base w (.slice (some ⟨g, 0, none⟩) n c) xs) {j : Nat} (hj : j < xs.length) : w.cell? ⟨g, j, none⟩ = some (.int .i64 xs[j]) ∧ w.frozen? ⟨g, j, none⟩ = false := by
  constructor
  · obtain ⟨b, o, e1, _, hc⟩ := h.ints.at_ hj
    obtain ⟨rfl, rfl⟩ : g = b ∧ 0 = o := by simpa using e1
    rwa [Nat.zero_add] at hc
  · rcases h.2 with ⟨h0, _⟩ | ⟨g', cap, cur, h0, hg, hh, _⟩
    · cases h0
    · injection h0 with h1 _ _
      injection h1 with h1
      injection h1 with h1 _ _
      subst h1
      exact frozen_of_row w g j _ e hh
theorem cell_far {w : World} {p q : Addr} (h : q.block ≠ p.block) (u : Value) : (w.setCell p u).cell? q = w.cell? q := World.cell?_of_block (Below.heap_setCell w p u q.block h)
end Go.Proofs.YteliflcbegcdlaaGreatDoor

namespace Go.Proofs.YteliflcbegcdlaaGreatDoor
open Go.RowKit
set_option linter.unusedVariables false
set_option maxHeartbeats 2000000 in
theorem split_any (vx : Value) (X : List Int) (r : Int) (too : Bool) (w : World) (hX : Ints w vx X) (hl : X.length ≤ 1000) (hx : ∀ x ∈ X, -1000 ≤ x ∧ x ≤ 1000) :
    Calls Tryz.prog 100 #[vx, .int .i64 r, .bool too] w fun e w' => ∃ v, e = .returned v ∧ OwnI 3 w.heap.size w' v (X.map (upr r too)) ∧ Below w.heap.size w w' := by
  obtain ⟨i0, hi0, hz0, hz1, hz2⟩ := info_parts info_int8
  have hX0 := hX
  obtain ⟨A, c, rfl, hc, hh⟩ := hX
  clear hh
  go_enter Tryz.func100, Tryz.ntmps100
  go_wp2_with fail
  go_loopw [7, 8] (fun s i wr => ∃ k : Nat, k ≤ X.length ∧ i = .int .i64 k ∧ OwnI 3 w.heap.size wr s ((X.take k).map (upr r too)) ∧ Below w.heap.size w wr) (fun _ i _ => X.length - (intOf i).toNat)
  case atStart => exact ⟨0, Nat.zero_le _, rfl, OwnI.nil _ _ _, Below.refl _ _⟩
  case round =>
    obtain ⟨k, hk, rfl, hown, hbel⟩ := hrel
    by_cases hlt : k < X.length
    · obtain ⟨b, o, rfl, hbl, hcell⟩ := hX0.at_ hlt
      have hc' := (hbel.cell (p := ⟨b, o + k, none⟩) hbl).trans hcell
      have hb := hx _ (List.getElem_mem hlt)
      have hS := Lib.hid (show (X.take (k + 1)).map (upr r too) = (X.take k).map (upr r too) ++ [upr r too X[k]] by rw [List.take_succ_eq_append_getElem hlt, List.map_append]; rfl)
      have hlk : ((X.take k).map (upr r too)).length ≤ 1000 := by simp; omega
      have hlr := Lib.hid (show upr r too X[k] = if r < X[k] ∨ (X[k] = r ∧ too = true) then X[k] + 1 else X[k] from rfl)
      generalize X[k] = x at *
      generalize upr r too x = q at *
      clear hcell
      by_cases e : r < x
      · have hq := Lib.hid (hlr.out.trans (if_pos (.inl e)))
        go_wp2_with ((at_builtin; refine wpList_appI rfl _ _ 22 rfl Tryz.underlying22 hi0 hz0 hz1 hz2 rfl (hown.alloc _) rfl (Ints.one wr 3 _) (by simp at hlk ⊢; omega) (Nat.le_trans hbel.size (by simp)) ?_; intro v' w1 hown' hb1 hk1))
        have hb2 := (hbel.alloc hbel.size _).trans hb1
        go_roundw
        case rel => exact ⟨k + 1, by omega, by go_num, by rw [hS.out, hq.out]; exact hown', hb2⟩
        case measure => simp [intOf]; omega
      have e' : x ≤ r := by omega
      by_cases e2 : x = r
      · have d2 : (x == r) = true := by simpa using e2
        cases too with
        | true =>
          have hq := Lib.hid (hlr.out.trans (if_pos (.inr ⟨e2, rfl⟩)))
          clear e2
          go_wp2_with ((at_builtin; refine wpList_appI rfl _ _ 22 rfl Tryz.underlying22 hi0 hz0 hz1 hz2 rfl (hown.alloc _) rfl (Ints.one wr 3 _) (by simp at hlk ⊢; omega) (Nat.le_trans hbel.size (by simp)) ?_; intro v' w1 hown' hb1 hk1))
          have hb2 := (hbel.alloc hbel.size _).trans hb1
          go_roundw
          case rel => exact ⟨k + 1, by omega, by go_num, by rw [hS.out, hq.out]; exact hown', hb2⟩
          case measure => simp [intOf]; omega
        | false =>
          have hq := Lib.hid (hlr.out.trans (if_neg (by simp; omega)))
          clear e2
          go_wp2_with ((at_builtin; refine wpList_appI rfl _ _ 22 rfl Tryz.underlying22 hi0 hz0 hz1 hz2 rfl (hown.alloc _) rfl (Ints.one wr 3 _) (by simp at hlk ⊢; omega) (Nat.le_trans hbel.size (by simp)) ?_; intro v' w1 hown' hb1 hk1))
          have hb2 := (hbel.alloc hbel.size _).trans hb1
          go_roundw
          case rel => exact ⟨k + 1, by omega, by go_num, by rw [hS.out, hq.out]; exact hown', hb2⟩
          case measure => simp [intOf]; omega
      · have d2 : (x == r) = false := by simpa using e2
        have hq := Lib.hid (hlr.out.trans (if_neg (by rintro (h | ⟨h, _⟩); omega; exact e2 h)))
        clear e2
        go_wp2_with ((at_builtin; refine wpList_appI rfl _ _ 22 rfl Tryz.underlying22 hi0 hz0 hz1 hz2 rfl (hown.alloc _) rfl (Ints.one wr 3 _) (by simp at hlk ⊢; omega) (Nat.le_trans hbel.size (by simp)) ?_; intro v' w1 hown' hb1 hk1))
        have hb2 := (hbel.alloc hbel.size _).trans hb1
        go_roundw
        case rel => exact ⟨k + 1, by omega, by go_num, by rw [hS.out, hq.out]; exact hown', hb2⟩
        case measure => simp [intOf]; omega
    · have hk2 : X.take k = X := List.take_of_length_le (by omega)
      rw [hk2] at hown
      clear hk2
      go_wp2_with fail
      go_ret
      exact ⟨_, rfl, hown, hbel⟩
set_option maxHeartbeats 1000000 in
theorem refValid_any (vx vo : Value) (X O : List Int) (w : World) (hX : Ints w vx X) (hO : Ints w vo O) (hn : X.length ≤ 1000) (hn' : O.length ≤ 1000) :
    Calls Tryz.prog 8 #[.agg #[vx, vo]] w fun e w' => e = .returned (.bool (refValidB X O)) ∧ Below w.heap.size w w' := by
  have hX0 := hX
  have hO0 := hO
  obtain ⟨A, c, rfl, hc, hh⟩ := hX
  obtain ⟨A', c', rfl, hc', hh'⟩ := hO
  clear hh hh'
  by_cases t1 : X.length < 2
  · have hfin := Lib.hid (show refValidB X O = false by simp [refValidB]; omega)
    go_enter Tryz.func8, Tryz.ntmps8
    go_wp2
    go_ret
    exact ⟨by rw [hfin.out]; rfl, (Below.refl _ _).alloc (Nat.le_refl _) _⟩
  by_cases t2 : 40 < X.length
  · have hfin := Lib.hid (show refValidB X O = false by simp [refValidB]; omega)
    have u1 : decide ((X.length : Int) < 2) = false := by simp; omega
    have u2 : decide (40 < (X.length : Int)) = true := by simp; omega
    go_enter Tryz.func8, Tryz.ntmps8
    go_wp2
    go_ret
    exact ⟨by rw [hfin.out]; rfl, (Below.refl _ _).alloc (Nat.le_refl _) _⟩
  have u1 : decide ((X.length : Int) < 2) = false := by simp; omega
  have u2 : decide (40 < (X.length : Int)) = false := by simp; omega
  have q1 : decide (2 ≤ X.length) = true := by simp; omega
  have q2 : decide (X.length ≤ 40) = true := by simp; omega
  have hv0 := Lib.hid (show refValidB X O = (refPerm X X.length && refPerm O X.length && neqB (X.drop 0) (O.drop 0)) by unfold refValidB; rw [q1, q2, Bool.true_and, Bool.true_and, List.drop_zero, List.drop_zero])
  clear q1 q2
  have hol := Lib.hid (show refPerm O X.length = true → O.length = X.length by simp [refPerm]; intro h _; exact h)
  go_enter Tryz.func8, Tryz.ntmps8
  go_wp2_with fail
  refine (isPerm_any _ X X.length _ (hX0.alloc _) hn hn).mono ?_
  rintro e w1 ⟨rfl, rfl⟩
  generalize refPerm X X.length = pX at *
  cases pX with
  | false =>
    have hfin := Lib.hid (show refValidB X O = false by rw [hv0.out]; rfl)
    go_wp2_with fail
    go_ret
    exact ⟨by rw [hfin.out]; rfl, (Below.refl _ _).alloc (Nat.le_refl _) _⟩
  | true =>
    go_wp2_with fail
    refine (isPerm_any _ O X.length _ (hO0.alloc _) hn' hn).mono ?_
    rintro e w1 ⟨rfl, rfl⟩
    generalize refPerm O X.length = pO at *
    cases pO with
    | false =>
      have hfin := Lib.hid (show refValidB X O = false by rw [hv0.out]; rfl)
      go_wp2_with fail
      go_ret
      exact ⟨by rw [hfin.out]; rfl, (Below.refl _ _).alloc (Nat.le_refl _) _⟩
    | true =>
      have HL := Lib.hid (hol.out rfl)
      have hv := Lib.hid (show refValidB X O = neqB (X.drop 0) (O.drop 0) by rw [hv0.out]; rfl)
      clear hv0
      go_wp2_with fail
      clear u1 u2
      go_loopw [4] (fun i wr => ∃ k : Nat, k ≤ X.length ∧ i = .int .i64 k ∧ Arr wr w.heap.size 24 [.slice A X.length c, .slice A' O.length c'] ∧ Below w.heap.size w wr ∧ Hid (refValidB X O = neqB (X.drop k) (O.drop k))) (fun i _ => X.length - (intOf i).toNat)
      case atStart => exact ⟨0, Nat.zero_le _, rfl, Arr.new w _ [_, _], (Below.refl _ _).alloc (Nat.le_refl _) _, hv⟩
      case round =>
        clear hv
        obtain ⟨k, hk, rfl, harr, hbel, hv⟩ := hrel
        have hb0 := harr.cell 0
        have hb1 := harr.cell 1
        by_cases hlt : k < X.length
        · have hlt' : k < O.length := by rw [HL.out]; exact hlt
          obtain ⟨b, o, rfl, hbl, hcell⟩ := hX0.at_ hlt
          obtain ⟨b', o', rfl, hbl', hcell'⟩ := hO0.at_ hlt'
          have hcX := (hbel.cell (p := ⟨b, o + k, none⟩) hbl).trans hcell
          have hcO := (hbel.cell (p := ⟨b', o' + k, none⟩) hbl').trans hcell'
          rw [neqB_drop X O hlt hlt'] at hv
          generalize X[k] = x at *
          generalize O[k] = y at *
          clear hcell hcell' hX0 hO0
          by_cases hxy : x = y
          · have h1 : (x == y) = true := by simpa using hxy
            have hfin := Lib.hid (show refValidB X O = false by rw [hv.out]; simp [bne, h1])
            clear hxy
            go_wp2_with fail
            go_quiet (fail)
            go_wp2_with fail
            go_ret
            exact ⟨by rw [hfin.out]; rfl, bdrewN hbel _⟩
          · have h1 : (x == y) = false := by simpa using hxy
            have hv' := Lib.hid (show refValidB X O = neqB (X.drop (k + 1)) (O.drop (k + 1)) by rw [hv.out]; simp [bne, h1])
            clear hxy
            go_wp2_with fail
            go_quiet (fail)
            go_wp2_with fail
            go_roundw
            case rel => exact ⟨k + 1, by omega, by go_num, harr.drewN _, bdrewN hbel _, hv'⟩
            case measure => simp [intOf]; omega
        · have hk2 : k = X.length := by omega
          have hfin := Lib.hid (show refValidB X O = true by rw [hv.out, hk2, List.drop_length]; simp [neqB])
          clear hk2
          go_wp2_with fail
          go_ret
          exact ⟨by rw [hfin.out]; rfl, hbel⟩
end Go.Proofs.YteliflcbegcdlaaGreatDoor

namespace Go.Proofs.YteliflcbegcdlaaGreatDoor
open Go.RowKit
set_option linter.unusedVariables false
def colIx (l : List Int) (y : Int) : Int := if y ∈ l then (l.idxOf y : Int) else -1
theorem column_ix (vx : Value) (X : List Int) (y : Int) (w : World) (hX : Ints w vx X) (hl : X.length ≤ 1000) :
    Calls Tryz.prog 22 #[vx, .int .i64 y] w fun e w' => e = .returned (.int .i64 (colIx X y)) ∧ w' = w := (column_any vx X y w hX hl).mono fun _ _ ⟨h1, h2⟩ => ⟨h1, h2.symm⟩
def remB (X O : List Int) (x o : Int) : Bool := if X.length < 3 ∨ (x - o ≠ 1 ∧ o - x ≠ 1) then false else (colIx O x != colIx X o)
set_option maxHeartbeats 1000000 in
theorem removable_any (vx vo : Value) (X O : List Int) (a : Nat) (w : World) (hX : Ints w vx X) (hO : Ints w vo O) (hl : X.length ≤ 1000) (hl' : O.length ≤ 1000) (ha : a < X.length) (hb : a < O.length) (hx : -1000 ≤ X[a] ∧ X[a] ≤ 1000) (ho : -1000 ≤ O[a] ∧ O[a] ≤ 1000) :
    Calls Tryz.prog 85 #[.agg #[vx, vo], .int .i64 a] w fun e w' => e = .returned (.bool (remB X O X[a] O[a])) ∧ Below w.heap.size w w' := by
  have hX0 := hX
  have hO0 := hO
  obtain ⟨A, c, rfl, hc, hh⟩ := hX
  obtain ⟨A', c', rfl, hc', hh'⟩ := hO
  clear hh hh'
  obtain ⟨b1, o1, rfl, hlt, c1⟩ := hX0.at_ ha
  obtain ⟨b2, o2, rfl, hlt', c2⟩ := hO0.at_ hb
  generalize X[a] = x at *
  generalize O[a] = o at *
  go_enter Tryz.func85, Tryz.ntmps85
  go_upto_region 1 with fail
  go_cut [5, 6] (fun s5 s6 wx => s5 = .int .i64 x ∧ s6 = .int .i64 o ∧ Arr wx w.heap.size 24 [.slice (some ⟨b1, o1, none⟩) X.length c, .slice (some ⟨b2, o2, none⟩) O.length c'] ∧ Below w.heap.size w wx)
  case first =>
    go_quiet (fail)
    go_wp2_with fail
    go_meet
    exact ⟨rfl, rfl, (Arr.new w _ [_, _]).drewN _, bdrewN ((Below.refl _ _).alloc (Nat.le_refl _) _) _⟩
  case rest =>
    clear c1 c2
    obtain ⟨rfl, rfl, harr, hbx⟩ := hcut
    have y0 := harr.cell 0
    have y1 := harr.cell 1
    by_cases t1 : X.length < 3
    · have hfin := Lib.hid (show remB X O x o = false by unfold remB; rw [if_pos (.inl t1)])
      go_wp2_with fail
      go_ret
      exact ⟨by rw [hfin.out]; rfl, hbx⟩
    have u1 : decide ((X.length : Int) < 3) = false := by simp; omega
    by_cases t2 : x - o = 1
    · have d2 : (x - o != 1) = false := by simp [t2]
      have hfin := Lib.hid (show remB X O x o = (colIx O x != colIx X o) by unfold remB; rw [if_neg (by omega)])
      clear t2
      go_wp2_with fail
      go_quiet (first | (go_at_call_of 22 (Value.slice (some ⟨b2, o2, none⟩) O.length c'); exact Calls.quiet_of_same (column_ix _ O x _ ((hO0.below hbx).drewN _) hl')) | (go_at_call_of 22 (Value.slice (some ⟨b1, o1, none⟩) X.length c); exact Calls.quiet_of_same (column_ix _ X o _ ((hX0.below hbx).drewN _) hl)))
      go_wp2_with fail
      go_ret
      exact ⟨by rw [hfin.out]; rfl, bdrewN hbx _⟩
    have d2 : (x - o != 1) = true := by simpa using t2
    by_cases t3 : o - x = 1
    · have d3 : (o - x != 1) = false := by simp [t3]
      have hfin := Lib.hid (show remB X O x o = (colIx O x != colIx X o) by unfold remB; rw [if_neg (by omega)])
      clear t2 t3
      go_wp2_with fail
      go_quiet (first | (go_at_call_of 22 (Value.slice (some ⟨b2, o2, none⟩) O.length c'); exact Calls.quiet_of_same (column_ix _ O x _ ((hO0.below hbx).drewN _) hl')) | (go_at_call_of 22 (Value.slice (some ⟨b1, o1, none⟩) X.length c); exact Calls.quiet_of_same (column_ix _ X o _ ((hX0.below hbx).drewN _) hl)))
      go_wp2_with fail
      go_ret
      exact ⟨by rw [hfin.out]; rfl, bdrewN hbx _⟩
    · have d3 : (o - x != 1) = true := by simpa using t3
      have hfin := Lib.hid (show remB X O x o = false by unfold remB; rw [if_pos (.inr ⟨t2, t3⟩)])
      clear t2 t3
      go_wp2_with fail
      go_ret
      exact ⟨by rw [hfin.out]; rfl, hbx⟩
end Go.Proofs.YteliflcbegcdlaaGreatDoor

namespace Go.Proofs.YteliflcbegcdlaaGreatDoor
open Go.RowKit
set_option linter.unusedVariables false
/-- the function value leads from a row to the column of its mark -/
def ColF (w : World) (v : Value) (X : List Int) : Prop :=
  ∃ g h, v = .func (.func 77) #[] #[.pointer (some ⟨g, 0, none⟩)] ∧ Arr w g 22 [.slice (some ⟨h, 0, none⟩) X.length X.length] ∧ Arr w h 3 (ints (tr X))
theorem ColF.below {w w' : World} {v : Value} {X : List Int} (h : ColF w v X) (hb : Below w.heap.size w w') : ColF w' v X := by
  obtain ⟨g, i, e, h1, h2⟩ := h
  exact ⟨g, i, e, h1.below hb h1.lt, h2.below hb h2.lt⟩
set_option maxHeartbeats 1000000 in
theorem gcolumns_any (vx : Value) (X : List Int) (w : World) (hX : Ints w vx X) (hp : Pm X) (hn : X.length ≤ 1000) :
    Calls Tryz.prog 53 #[vx] w fun e w' => ∃ v, e = .returned v ∧ ColF w' v X ∧ Below w.heap.size w w' := by
  obtain ⟨i0, hi0, hz0, hz1, hz2⟩ := info_parts info_int
  have hmk := fun W => run_make_one (P := Tryz.prog) 22 3 i0 (.int .i64 0) Tryz.underlying22 hi0 hz0 hz1 rfl (by rw [hz2]; decide) X.length (by omega) W
  clear hi0 hz0 hz1 hz2
  have hX0 := hX
  obtain ⟨A, c, rfl, hc, hh⟩ := hX
  clear hh
  go_enter Tryz.func53, Tryz.ntmps53
  go_wp2_with fail
  have hW : Arr ((w.alloc (.cells (rowOf (List.replicate X.length (Value.int .i64 0))) 3)).alloc (.cells #[.slice (some ⟨w.heap.size, 0, none⟩) X.length X.length] 22)) w.heap.size 3 (List.replicate X.length (Value.int .i64 0)) ∧
      Arr ((w.alloc (.cells (rowOf (List.replicate X.length (Value.int .i64 0))) 3)).alloc (.cells #[.slice (some ⟨w.heap.size, 0, none⟩) X.length X.length] 22)) (w.heap.size + 1) 22 [.slice (some ⟨w.heap.size, 0, none⟩) X.length X.length] ∧
      Below w.heap.size w ((w.alloc (.cells (rowOf (List.replicate X.length (Value.int .i64 0))) 3)).alloc (.cells #[.slice (some ⟨w.heap.size, 0, none⟩) X.length X.length] 22)) :=
    ⟨(Arr.new w _ _).alloc _, Arr.newAt (w.alloc _) _ [_] _ (by simp), ((Below.refl _ _).alloc (Nat.le_refl _) _).alloc (by simp) _⟩
  generalize ((w.alloc (.cells (rowOf (List.replicate X.length (Value.int .i64 0))) 3)).alloc (.cells #[.slice (some ⟨w.heap.size, 0, none⟩) X.length X.length] 22)) = w4 at hW ⊢
  obtain ⟨p0, p1, hbw⟩ := hW
  clear hmk
  go_loopw [11] (fun i wr => ∃ (k : Nat) (aX : List Int), k ≤ X.length ∧ i = .int .i64 k ∧ Arr wr w.heap.size 3 (ints aX) ∧ Arr wr (w.heap.size + 1) 22 [.slice (some ⟨w.heap.size, 0, none⟩) X.length X.length] ∧ Below w.heap.size w wr ∧ Hid (aX.length = X.length ∧ relTo mvT true k (X.drop k) aX = tr X)) (fun i _ => X.length - (intOf i).toNat)
  case atStart =>
    exact ⟨0, List.replicate X.length 0, Nat.zero_le _, rfl, by rw [ints_zero]; exact p0, p1, hbw, by simp, rfl⟩
  case round =>
    clear p0 p1 hbw
    obtain ⟨k, aX, hk, rfl, p0, p1, hbr, H⟩ := hrel
    by_cases hlt : k < X.length
    · obtain ⟨b, o, rfl, hbl, hcell⟩ := hX0.at_ hlt
      have hc' := (hbr.cell (p := ⟨b, o + k, none⟩) hbl).trans hcell
      have hg := hp.get hlt
      have H' := Lib.hid (show relTo mvT true (k + 1) (X.drop (k + 1)) (aX.set X[k].toNat k) = tr X by
        have := H.out.2
        rw [relTo_drop mvT true X aX hlt, relStep_mvT _ _ _ hg.1] at this
        exact this)
      have hle := Lib.hid H.out.1
      generalize X[k] = x at *
      obtain ⟨x, rfl⟩ := Int.eq_ofNat_of_zero_le hg.1
      rw [Int.toNat_natCast] at H'
      have hx1 : x < X.length := by omega
      have hx2 : x < aX.length := by have := hle.out; omega
      clear hcell
      have z1 := p1.cell 0
      have z2 := (p0.cell x).trans (ints_get _ hx2)
      have z3 := p0.frozen x
      go_wp2_with fail
      go_roundw
      case rel => exact ⟨k + 1, aX.set x k, by omega, by go_num, by rw [← ints_set]; exact p0.set _ _, p1.far (p := ⟨w.heap.size, x, none⟩) (by show w.heap.size + 1 ≠ w.heap.size; omega) _, hbr.setCell (Nat.le_refl _) _, by rw [List.length_set]; exact hle.out, H'.out⟩
      case measure => simp [intOf]; omega
    · obtain rfl : k = X.length := by omega
      have e1 := Lib.hid (show aX = tr X by have := H.out.2; rw [List.drop_length] at this; exact this)
      go_wp2_with fail
      go_ret
      exact ⟨_, rfl, ⟨_, _, rfl, p1, by rw [← e1.out]; exact p0⟩, hbr⟩
theorem gcolumns1_any (g h : Nat) (X : List Int) (r : Nat) (w : World) (hp : Pm X) (hr : r < X.length) (h1 : Arr w g 22 [.slice (some ⟨h, 0, none⟩) X.length X.length]) (h2 : Arr w h 3 (ints (tr X))) :
    Calls Tryz.prog 77 #[.int .i64 r, .pointer (some ⟨g, 0, none⟩)] w fun e w' => e = .returned (.int .i64 (gt (tr X) r)) ∧ w = w' := by
  have hr' : r < (tr X).length := by rw [tr_length]; exact hr
  have z1 := h1.cell 0
  have z2 := (h2.cell r).trans (ints_get _ hr')
  rw [← gt_get hr'] at z2
  have z3 : (r : Int) < (X.length : Int) := by omega
  generalize gt (tr X) r = y at *
  go_enter Tryz.func77, Tryz.ntmps77
  go_wp2_with fail
  go_ret
  exact ⟨rfl, rfl⟩
end Go.Proofs.YteliflcbegcdlaaGreatDoor
