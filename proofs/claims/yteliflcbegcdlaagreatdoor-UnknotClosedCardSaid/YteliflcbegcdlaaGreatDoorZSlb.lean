/- slices.Reverse at a list of slices. -/
/- Slices of elements of some cells: a part of a slice reads as the part of the list. -/
import Derived.Test.YteliflcbegcdlaaGreatDoorZSmp
import Derived.BigRegion
import Derived.Test.YteliflcbegcdlaaGreatDoorZOwn
namespace Go.Proofs.YteliflcbegcdlaaGreatDoor
open Go.RowKit
set_option linter.unusedVariables false
/-- block g holds cells of type e, the first of which are xs -/
def RowV (e : TypeId) (g : Nat) (w : World) (xs : List Value) : Prop := ∃ cur : Array Value, w.heap[g]? = some (.cells cur e (0, 0)) ∧ ∀ (i : Nat) x, xs[i]? = some x → cur[i]? = some x
section
variable {e : TypeId} {g : Nat} {w w' : World} {xs : List Value}
theorem RowV.cell (h : RowV e g w xs) {i : Nat} {x : Value} (hx : xs[i]? = some x) : w.cell? ⟨g, i, none⟩ = some x := by
  obtain ⟨cur, h1, h2⟩ := h
  rw [cell_of_row w g _ cur e (0, 0) h1]
  exact h2 i x hx
theorem RowV.frozen (h : RowV e g w xs) (i : Nat) : w.frozen? ⟨g, i, none⟩ = false := by
  obtain ⟨cur, h1, _⟩ := h
  exact frozen_of_row w g _ cur e h1
theorem RowV.set (h : RowV e g w xs) {i : Nat} (hi : i < xs.length) (v : Value) : RowV e g (w.setCell ⟨g, i, none⟩ v) (xs.set i v) := by
  obtain ⟨cur, h1, h2⟩ := h
  have hlt : i < cur.size := (Array.getElem?_eq_some_iff.1 (h2 i _ (List.getElem?_eq_getElem hi))).1
  refine ⟨_, heap_setCell_same w g i cur e v h1, fun j x hj => ?_⟩
  by_cases ej : i = j
  · subst ej
    rw [List.getElem?_set_self hi] at hj
    injection hj with hj
    rw [Array.getElem?_setIfInBounds, if_pos rfl, if_pos hlt, hj]
  · rw [List.getElem?_set_ne ej] at hj
    rw [Array.getElem?_setIfInBounds, if_neg ej]
    exact h2 j x hj
theorem RowV.drew (h : RowV e g w xs) : RowV e g w.drew xs := h
theorem RowV.keep (h : RowV e g w xs) (hk : w'.heap[g]? = w.heap[g]?) : RowV e g w' xs := by
  obtain ⟨cur, h1, h2⟩ := h
  exact ⟨cur, hk.trans h1, h2⟩
theorem RowV.lt (h : RowV e g w xs) : g < w.heap.size := by
  obtain ⟨cur, h1, _⟩ := h
  exact (Array.getElem?_eq_some_iff.1 h1).1
end
/-- the first t and the last t have changed places -/
def rvV (xs : List Value) (t : Nat) : List Value := (List.range xs.length).map fun i => if i < t ∨ xs.length - t ≤ i then xs.getD (xs.length - 1 - i) undef else xs.getD i undef
theorem rvV_length (xs : List Value) (t : Nat) : (rvV xs t).length = xs.length := by simp [rvV]
theorem rvV_get {xs : List Value} {t i : Nat} (h : i < xs.length) : (rvV xs t)[i]? = some (if i < t ∨ xs.length - t ≤ i then xs.getD (xs.length - 1 - i) undef else xs.getD i undef) := by
  unfold rvV; rw [List.getElem?_map, List.getElem?_range h]; rfl
theorem getD_get {xs : List Value} {i : Nat} (h : i < xs.length) : xs.getD i undef = xs[i] := by simp [List.getD_eq_getElem?_getD, h]
theorem rvV_zero (xs : List Value) : rvV xs 0 = xs := by
  apply List.ext_getElem?
  intro i
  by_cases h : i < xs.length
  · rw [rvV_get h, if_neg (by omega), getD_get h, List.getElem?_eq_getElem h]
  · rw [List.getElem?_eq_none (by rw [rvV_length]; omega), List.getElem?_eq_none (by omega)]
theorem rvV_end {xs : List Value} {t : Nat} (h : xs.length ≤ 2 * t + 1) : rvV xs t = xs.reverse := by
  apply List.ext_getElem?
  intro i
  by_cases hi : i < xs.length
  · rw [rvV_get hi, List.getElem?_reverse hi, List.getElem?_eq_getElem (show xs.length - 1 - i < xs.length by omega), ← getD_get (show xs.length - 1 - i < xs.length by omega)]
    by_cases e : i < t ∨ xs.length - t ≤ i
    · rw [if_pos e]
    · rw [if_neg e, show xs.length - 1 - i = i by omega]
  · rw [List.getElem?_eq_none (by rw [rvV_length]; omega), List.getElem?_eq_none (by simp; omega)]
theorem rvV_step {xs : List Value} {t : Nat} (h : t + 1 + t < xs.length) : ((rvV xs t).set t (xs.getD (xs.length - 1 - t) undef)).set (xs.length - 1 - t) (xs.getD t undef) = rvV xs (t + 1) := by
  apply List.ext_getElem?
  intro i
  by_cases hi : i < xs.length
  · rw [rvV_get hi]
    by_cases e1 : xs.length - 1 - t = i
    · subst e1
      rw [List.getElem?_set_self (by simp [rvV_length]; omega), if_pos (by omega), show xs.length - 1 - (xs.length - 1 - t) = t by omega]
    · rw [List.getElem?_set_ne e1]
      by_cases e2 : t = i
      · subst e2
        rw [List.getElem?_set_self (by rw [rvV_length]; omega), if_pos (by omega)]
      · rw [List.getElem?_set_ne e2, rvV_get hi]
        by_cases e3 : i < t ∨ xs.length - t ≤ i
        · rw [if_pos e3, if_pos (by omega)]
        · rw [if_neg e3, if_neg (by omega)]
  · rw [List.getElem?_eq_none (by simp [rvV_length]; omega), List.getElem?_eq_none (by rw [rvV_length]; omega)]
set_option maxHeartbeats 2000000 in
set_option maxRecDepth 100000 in
theorem reverse_any (e : TypeId) (B g c : Nat) (xs : List Value) (w : World) (h : RowV e g w xs) (hB : B ≤ g) (hl : xs.length ≤ 1000000000) (hsl : ∀ x ∈ xs, IsSl x) :
    Calls Tryz.prog 51 #[.slice (some ⟨g, 0, none⟩) xs.length c] w fun e' w' => e' = .returned (.tuple #[]) ∧ RowV e g w' xs.reverse ∧ Below B w w' := by
  obtain ⟨n, hn⟩ : ∃ n, n = xs.length := ⟨_, rfl⟩
  rw [← hn] at hl ⊢
  have HN := Lib.hid hn
  have HB := Lib.hid hB
  have HR := Lib.hid h
  have HSL := Lib.hid (fun i (hi : i < xs.length) => show IsSl (xs.getD i undef) from by rw [getD_get hi]; exact hsl _ (List.getElem_mem hi))
  clear hn hB h hsl
  go_enter Tryz.func51, Tryz.ntmps51
  go_wp2_with fail
  go_loopg [2, 3] (n + 1) (fun gk s2 s3 wr => ∃ t : Nat, t ≤ n ∧ gk = n + 1 - t ∧ s2 = .int .i64 (t : Int) ∧ s3 = .int .i64 ((n : Int) - 1 - t) ∧ Hid (RowV e g wr (rvV xs t)) ∧ Hid (Below B w wr))
  case atStart => exact ⟨0, by omega, rfl, rfl, by go_num, Lib.hid (by rw [rvV_zero]; exact HR.out), Lib.hid (Below.refl _ _)⟩
  case round =>
    obtain ⟨t, ht, rfl, rfl, rfl, H, HW⟩ := hrel
    by_cases hlt : t + 1 + t < n
    · have z1 : (t : Int) < (n : Int) - 1 - t := by omega
      have hxl : (rvV xs t).length = n := by rw [rvV_length, HN.out]
      have y0 := H.out.cell (i := t) (x := xs.getD t undef) (by rw [rvV_get (by have := HN.out; omega), if_neg (by have := HN.out; omega)])
      have y1 := H.out.cell (i := n - 1 - t) (x := xs.getD (n - 1 - t) undef) (by rw [rvV_get (by have := HN.out; omega), if_neg (by have := HN.out; omega)])
      have f0 := H.out.frozen t
      have f1 := H.out.frozen (n - 1 - t)
      have HS := Lib.hid (rvV_step (xs := xs) (t := t) (by have := HN.out; omega))
      obtain ⟨m, hm⟩ : ∃ m : Nat, m = n - 1 - t := ⟨_, rfl⟩
      rw [← HN.out, ← hm] at HS
      rw [← hm] at y1 f1
      have e1 : (n : Int) - 1 - t = (m : Int) := by omega
      have HMT := Lib.hid (show t < m ∧ m < n by omega)
      have z2 : (t : Int) < (n : Int) := by omega
      have z3 : (m : Int) < (n : Int) := by omega
      have z4 : ¬ t = m := by omega
      have z5 : ¬ m = t := by omega
      obtain ⟨x, hx⟩ : ∃ x, x = xs.getD t undef := ⟨_, rfl⟩
      obtain ⟨y, hy⟩ : ∃ y, y = xs.getD m undef := ⟨_, rfl⟩
      rw [← hx, ← hy] at HS
      rw [← hx] at y0
      rw [← hy] at y1
      have HXL := Lib.hid hxl
      obtain ⟨A0, n0, c0, hx0⟩ := HSL.out t (by have := HN.out; omega)
      obtain ⟨A1, n1, c1, hy0⟩ := HSL.out m (by have := HN.out; omega)
      rw [← hx] at hx0
      rw [← hy] at hy0
      clear hxl hx hy hm
      subst hx0; subst hy0
      rw [e1] at z1 ⊢
      go_upto_region 3 with fail
      go_region
      have a2 := ((H.out.set (i := t) (by have := HXL.out; omega) (.slice A1 n1 c1)).set (i := m) (by have := HXL.out; have := HMT.out; simp; omega) (.slice A0 n0 c0)).drew
      rw [HS.out] at a2
      have b2 := ((HW.out.setCell (p := ⟨g, t, none⟩) HB.out (.slice A1 n1 c1)).setCell (p := ⟨g, m, none⟩) HB.out (.slice A0 n0 c0)).drew
      have HA2 := Lib.hid a2
      have HB2 := Lib.hid b2
      clear a2 b2 y0 y1 f0 f1
      generalize ((wr.setCell ⟨g, t, none⟩ (.slice A1 n1 c1)).setCell ⟨g, m, none⟩ (.slice A0 n0 c0)).drew = w5 at HA2 HB2 ⊢
      go_wp2_with fail
      go_roundg (n + 1 - (t + 1))
      case measure => omega
      case rel =>
        have e : (m : Int) - 1 = (n : Int) - 1 - ((t + 1 : Nat) : Int) := by omega
        exact ⟨t + 1, by omega, rfl, by go_num, by rw [← e], HA2, HB2⟩
    · have z1 : ¬ (t : Int) < (n : Int) - 1 - t := by omega
      go_wp2_with fail
      refine bodyPost_end (results_none rfl _ _ _) rfl ?_
      refine ⟨rfl, ?_, HW.out⟩
      have := H.out
      rw [rvV_end (by have := HN.out; omega)] at this
      exact this
end Go.Proofs.YteliflcbegcdlaaGreatDoor

namespace Go.Proofs.YteliflcbegcdlaaGreatDoor
open Go.RowKit
set_option linter.unusedVariables false
section
variable {α : Type} {enc : α → List Value} {sz : Nat} {w : World}
theorem flat_len (hl : ∀ x, (enc x).length = sz) (ys : List α) : (ys.flatMap enc).length = ys.length * sz := by
  induction ys with
  | nil => simp
  | cons x xs ih => rw [List.flatMap_cons, List.length_append, ih, hl, List.length_cons, Nat.succ_mul]; omega
theorem flat_get (hl : ∀ x, (enc x).length = sz) : ∀ (ys : List α) (k j : Nat) (h : k < ys.length), j < sz → (ys.flatMap enc)[k * sz + j]? = (enc ys[k])[j]? := by
  intro ys
  induction ys with
  | nil => intro k j h; simp at h
  | cons m l ih =>
    intro k j h hj
    rw [List.flatMap_cons]
    cases k with
    | zero => rw [List.getElem?_append_left (by rw [hl]; omega)]; simp
    | succ k =>
      rw [List.getElem?_append_right (by rw [hl, Nat.succ_mul]; omega)]
      have := ih k j (by simpa using h) hj
      rw [show (k + 1) * sz + j - (enc m).length = k * sz + j from by rw [hl, Nat.succ_mul]; omega, this]
      simp
theorem flat_drop (hl : ∀ x, (enc x).length = sz) : ∀ (k : Nat) (ys : List α), (ys.drop k).flatMap enc = (ys.flatMap enc).drop (k * sz)
  | 0, ys => by simp
  | k + 1, [] => by simp
  | k + 1, y :: ys => by
    have e1 : (enc y).drop ((k + 1) * sz) = [] := List.drop_eq_nil_of_le (by rw [hl, Nat.succ_mul]; omega)
    have e2 : (k + 1) * sz - sz = k * sz := by rw [Nat.succ_mul]; omega
    rw [List.drop_succ_cons, flat_drop hl k ys, List.flatMap_cons, List.drop_append, e1, hl, e2, List.nil_append]
theorem flat_take (hl : ∀ x, (enc x).length = sz) : ∀ (k : Nat) (ys : List α), (ys.take k).flatMap enc = (ys.flatMap enc).take (k * sz)
  | 0, ys => by simp
  | k + 1, [] => by simp
  | k + 1, y :: ys => by
    have e1 : (enc y).take ((k + 1) * sz) = enc y := List.take_of_length_le (by rw [hl, Nat.succ_mul]; omega)
    have e2 : (k + 1) * sz - sz = k * sz := by rw [Nat.succ_mul]; omega
    rw [List.take_succ_cons, List.flatMap_cons, List.flatMap_cons, flat_take hl k ys, List.take_append, e1, hl, e2]
/-- a part of a slice reads as the part of the list -/
theorem SlA.sub (hl : ∀ x, (enc x).length = sz) (hs : 0 < sz) {A : Option Addr} {n c lo hi : Nat} {ys : List α} (h : SlA enc w (.slice A n c) ys) (h1 : lo ≤ hi) (h2 : hi ≤ ys.length) (c' : Nat) (hc : hi - lo ≤ c') (A' : Option Addr) (hA : lo < hi → A' = A.map (·.add (lo * sz))) :
    SlA enc w (.slice A' (hi - lo) c') ((ys.take hi).drop lo) := by
  obtain ⟨A0, c0, hv, hcap, hx⟩ := h
  injection hv with e1 e2 e3
  subst e1
  have hlen : ((ys.take hi).drop lo).length = hi - lo := by simp; omega
  refine ⟨A', c', by rw [hlen], by omega, fun j q hq => ?_⟩
  have hj : j < ((ys.take hi).drop lo).length * sz := by
    have := (List.getElem?_eq_some_iff.1 hq).1
    rwa [flat_len hl] at this
  rw [hlen] at hj
  have hlt : lo < hi := by
    rcases Nat.lt_or_ge lo hi with q | q
    · exact q
    · rw [show hi - lo = 0 by omega, Nat.zero_mul] at hj; omega
  rw [flat_drop hl, List.getElem?_drop, flat_take hl, List.getElem?_take, if_pos (by
    have : lo * sz + (hi - lo) * sz = hi * sz := by rw [← Nat.add_mul]; congr 1; omega
    omega)] at hq
  obtain ⟨b, o, hA0, hcell⟩ := hx _ q hq
  subst hA0
  refine ⟨b, o + lo * sz, ?_, by rw [Nat.add_assoc]; exact hcell⟩
  rw [hA hlt]
  simp only [Option.map_some, Addr.add]
  split <;> simp_all
end
end Go.Proofs.YteliflcbegcdlaaGreatDoor
