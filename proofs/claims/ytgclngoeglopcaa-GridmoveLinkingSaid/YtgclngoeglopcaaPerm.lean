/- grid.permutation: it returns whether each element is in range and none occurs twice. -/
import Derived.Test.YtgclngoeglopcaaProg
import Derived.Test.YtgclngoeglopcaaBase
import Derived.KernelRfl
import Derived.Outline
namespace Go.Proofs.Ytgclngoeglopcaa
open Go.RowKit

/-- each element is in range, and none occurs before -/
def permFrom (n : Nat) (seen : List Int) : List Int → Bool
  | [] => true
  | x :: xs => decide (0 ≤ x) && decide (x < n) && !(seen.contains x) && permFrom n (seen ++ [x]) xs
def permB (l : List Int) : Bool := permFrom l.length [] l

def seenRow (n : Nat) (s : List Int) : List Value := (List.range n).map fun i : Nat => Value.bool (s.contains (i : Int))

theorem seenRow_get {n : Nat} {s : List Int} {i : Nat} (h : i < n) : (seenRow n s)[i]? = some (.bool (s.contains (i : Int))) := by
  simp [seenRow, h]
theorem seenRow_nil (n : Nat) : seenRow n [] = List.replicate n (.bool false) := by
  apply List.ext_getElem?
  intro i
  by_cases h : i < n <;> simp [seenRow, h]
theorem seenRow_set {n : Nat} {s : List Int} {i : Nat} (_ : i < n) : (seenRow n s).set i (.bool true) = seenRow n (s ++ [(i : Int)]) := by
  apply List.ext_getElem?
  intro j
  rw [List.getElem?_set]
  by_cases hj : j < n
  · by_cases e : i = j
    · subst e; simp [seenRow, hj]
    · simp [seenRow, hj, e]
      intro h; omega
  · simp [seenRow, hj]; omega

theorem permFrom_drop (l : List Int) (k : Nat) (h : k < l.length) (m : Nat) :
    permFrom m (l.take k) (l.drop k) = (decide (0 ≤ l[k]) && decide (l[k] < m) && !((l.take k).contains l[k]) && permFrom m (l.take (k + 1)) (l.drop (k + 1))) := by
  rw [List.drop_eq_getElem_cons h, permFrom, List.take_succ_eq_append_getElem h]

theorem info_bool : (Try.prog.info? 4).map (fun i => (i.zero, i.size, i.bytes)) = some (some (.bool false), 1, 1) := by kernel_rfl

set_option maxHeartbeats 400000 in
theorem permutation_any (v : Value) (l : List Int) (w : World) (h : Ints w v l) (hn : l.length ≤ 1000) :
    Calls Try.prog 33 #[v] w fun e w' => e = .returned (.bool (permB l)) ∧ Below w.heap.size w w' := by
  have h0 := h
  obtain ⟨A, c, rfl, hc, hh⟩ := h
  clear hh
  obtain ⟨i0, hi0, hz0, hz1, hz2⟩ := info_parts info_bool
  have hmk := fun W => run_make_one (P := Try.prog) 42 4 i0 (.bool false) Try.underlying42 hi0 hz0 hz1 rfl (by rw [hz2]; decide) l.length (by omega) W
  clear hi0 hz0 hz1 hz2
  go_enter Try.func33, Try.ntmps33
  go_wp2
  go_loopw [11] (fun i wr => ∃ k : Nat, k ≤ l.length ∧ i = .int .i64 k ∧ Arr wr w.heap.size 4 (seenRow l.length (l.take k)) ∧ Below w.heap.size w wr ∧ Hid (permB l = permFrom l.length (l.take k) (l.drop k))) (fun i _ => l.length - (intOf i).toNat)
  case atStart => 
    refine ⟨0, Nat.zero_le _, rfl, ?_, (Below.refl _ _).alloc (Nat.le_refl _) _, rfl⟩
    rw [List.take_zero, seenRow_nil]
    exact Arr.new w 4 (List.replicate l.length (.bool false))
  case round =>
    obtain ⟨k, hk, rfl, harr, hbel, hp⟩ := hrel
    by_cases hlt : k < l.length
    · obtain ⟨b, o, rfl, hb, hcell⟩ := h0.at_ hlt
      have hcell' := (hbel.cell (p := ⟨b, o + k, none⟩) hb).trans hcell
      rw [permFrom_drop l k hlt] at hp
      have htk : Hid (l.take (k + 1) = l.take k ++ [l[k]]) := List.take_succ_eq_append_getElem hlt
      generalize l[k] = x at *
      clear hcell h0
      by_cases hx0 : x < 0
      · have hx0' : decide (0 ≤ x) = false := by simp; omega
        rw [hx0'] at hp
        simp only [Bool.false_and] at hp
        clear hx0'
        go_wp2
        go_ret
        exact ⟨by rw [hp.out]; rfl, hbel⟩
      by_cases hx1 : x < l.length
      · obtain ⟨m, rfl⟩ := Int.eq_ofNat_of_zero_le (Int.not_lt.1 hx0)
        have hm : m < l.length := by omega
        have hs := (harr.cell m).trans (seenRow_get hm)
        have hf := harr.frozen m
        by_cases hsn : (l.take k).contains (m : Int) = true
        · rw [hsn] at hs hp
          simp only [Bool.not_true, Bool.and_false, Bool.false_and] at hp
          go_wp2
          go_ret
          exact ⟨by rw [hp.out]; rfl, hbel⟩
        · rw [Bool.not_eq_true] at hsn
          rw [hsn] at hs hp
          have e1 : decide ((0 : Int) ≤ (m : Int)) = true := by simp
          have e2 : decide ((m : Int) < (l.length : Int)) = true := by simp; omega
          rw [e1, e2] at hp
          simp only [Bool.not_false, Bool.and_true, Bool.true_and] at hp
          clear e1 e2 hsn hx0 hx1
          go_wp2
          go_roundw
          case rel => exact ⟨k + 1, by omega, by go_num, by rw [htk.out, ← seenRow_set hm]; exact harr.set _ _, hbel.setCell (Nat.le_refl _) _, hp⟩
          case measure => simp [intOf]; omega
      · have hx0' : decide (x < (l.length : Int)) = false := by simp; omega
        rw [hx0'] at hp
        simp only [Bool.false_and, Bool.and_false] at hp
        clear hx0'
        go_wp2
        go_ret
        exact ⟨by rw [hp.out]; rfl, hbel⟩
    · obtain rfl : k = l.length := by omega
      rw [List.drop_length] at hp
      go_wp2
      go_ret
      exact ⟨by rw [hp.out]; rfl, hbel⟩
end Go.Proofs.Ytgclngoeglopcaa
