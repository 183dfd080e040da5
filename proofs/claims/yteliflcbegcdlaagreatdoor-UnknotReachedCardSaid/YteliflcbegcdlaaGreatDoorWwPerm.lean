/- The closures that gridmove hands to relocate, and gridmove.limits. -/
/- grid.permutation: it returns whether each element is in range and none occurs twice. -/
import Derived.Test.YteliflcbegcdlaaGreatDoorProg
import Derived.Test.YteliflcbegcdlaaGreatDoorWwBase
import Derived.KernelRfl
import Derived.Outline
namespace Go.Proofs.YteliflcbegcdlaaGreatDoor
open Go.RowKit
set_option linter.unusedVariables false
def mvT (c r : Int) (_ : Bool) : Int × Int := (r, c)
def mvRot (n : Int) (c r : Int) (_ : Bool) : Int × Int := ((c + n - 1) % n, r)
def mvSwap (a : Int) (c r : Int) (_ : Bool) : Int × Int := (if c = a then c + 1 else if c = a + 1 then c - 1 else c, r)
def mvDel (low a : Int) (c r : Int) (_ : Bool) : Int × Int := (if c = a then -1 else if a < c then c - 1 else c, if low < r then r - 1 else r)
def mvAdd (r0 : Int) (stays : Bool) (a : Int) (c r : Int) (isX : Bool) : Int × Int := (if a ≤ c then c + 1 else c, if r0 < r ∨ (r = r0 ∧ isX ≠ stays) then r + 1 else r)
theorem ret_pair {a b c d : Int} (h1 : a = c) (h2 : b = d) : Ending.returned (.tuple #[.int .i64 a, .int .i64 b]) = .returned (.tuple #[.int .i64 c, .int .i64 d]) := by rw [h1, h2]
theorem transpose1_any (c r : Int) (b : Bool) (w : World) :
    Calls Tryz.prog 96 #[.int .i64 c, .int .i64 r, .bool b] w fun e w' => e = .returned (.tuple #[.int .i64 (mvT c r b).1, .int .i64 (mvT c r b).2]) ∧ w = w' := by
  go_enter Tryz.func96, Tryz.ntmps96
  go_wp2
  go_ret2
  exact ⟨rfl, rfl⟩
theorem columns1_any (c r n : Int) (b : Bool) (g : Nat) (w : World) (h0 : 0 ≤ c) (h1 : c ≤ 1000) (h2 : 1 ≤ n) (h3 : n ≤ 1000) (hc : w.cell? ⟨g, 0, none⟩ = some (.int .i64 n)) :
    Calls Tryz.prog 91 #[.int .i64 c, .int .i64 r, .bool b, .pointer (some ⟨g, 0, none⟩)] w fun e w' => e = .returned (.tuple #[.int .i64 (mvRot n c r b).1, .int .i64 (mvRot n c r b).2]) ∧ w = w' := by
  have hz : (n == 0) = false := by simp; omega
  go_enter Tryz.func91, Tryz.ntmps91
  go_wp2
  go_ret2
  exact ⟨rfl, rfl⟩
set_option maxHeartbeats 400000 in
theorem columns2_any (c r a : Int) (b : Bool) (g : Nat) (w : World) (h0 : 0 ≤ c) (h1 : c ≤ 1000) (h2 : 0 ≤ a) (h3 : a ≤ 1000) (hc : w.cell? ⟨g, 2, none⟩ = some (.int .i64 a)) :
    Calls Tryz.prog 93 #[.int .i64 c, .int .i64 r, .bool b, .pointer (some ⟨g, 0, none⟩)] w fun e w' => e = .returned (.tuple #[.int .i64 (mvSwap a c r b).1, .int .i64 (mvSwap a c r b).2]) ∧ w = w' := by
  by_cases e1 : c = a
  · have b1 : (c == a) = true := by simpa using e1
    have E := Lib.hid e1
    clear e1
    go_enter Tryz.func93, Tryz.ntmps93
    go_wp2
    go_ret2
    exact ⟨ret_pair (by simp [mvSwap, E.out]) rfl, rfl⟩
  · have b1 : (c == a) = false := by simpa using e1
    by_cases e2 : c = a + 1
    · have b2 : (c == a + 1) = true := by simpa using e2
      have E := Lib.hid e1
      have E2 := Lib.hid e2
      clear e1 e2
      go_enter Tryz.func93, Tryz.ntmps93
      go_wp2
      go_ret2
      exact ⟨ret_pair (by simp only [mvSwap]; rw [if_neg E.out, if_pos E2.out]) rfl, rfl⟩
    · have b2 : (c == a + 1) = false := by simpa using e2
      have E := Lib.hid e1
      have E2 := Lib.hid e2
      clear e1 e2
      go_enter Tryz.func93, Tryz.ntmps93
      go_wp2
      go_ret2
      exact ⟨ret_pair (by simp only [mvSwap]; rw [if_neg E.out, if_neg E2.out]) rfl, rfl⟩
set_option maxHeartbeats 400000 in
theorem destabilize1_any (c r low a : Int) (b : Bool) (gl ga : Nat) (w : World) (h0 : 0 ≤ c) (h1 : c ≤ 1000) (h2 : 0 ≤ a) (h3 : a ≤ 1000) (h4 : 0 ≤ r) (h5 : r ≤ 1000) (h6 : 0 ≤ low) (h7 : low ≤ 1000)
    (hc : w.cell? ⟨gl, 0, none⟩ = some (.int .i64 low)) (hc' : w.cell? ⟨ga, 0, none⟩ = some (.int .i64 a)) :
    Calls Tryz.prog 104 #[.int .i64 c, .int .i64 r, .bool b, .pointer (some ⟨gl, 0, none⟩), .pointer (some ⟨ga, 0, none⟩)] w fun e w' => e = .returned (.tuple #[.int .i64 (mvDel low a c r b).1, .int .i64 (mvDel low a c r b).2]) ∧ w = w' := by
  by_cases e1 : c = a
  · have b1 : (c == a) = true := by simpa using e1
    have E := Lib.hid e1
    clear e1
    by_cases e3 : low < r
    all_goals
      go_enter Tryz.func104, Tryz.ntmps104
      go_wp2
      go_ret2
      exact ⟨ret_pair (by simp only [mvDel]; rw [if_pos E.out]) (by simp only [mvDel]; first | rw [if_pos (by assumption)] | rw [if_neg (by omega)]), rfl⟩
  · have b1 : (c == a) = false := by simpa using e1
    have E := Lib.hid e1
    by_cases e2 : a < c
    · clear e1
      by_cases e3 : low < r
      all_goals
        go_enter Tryz.func104, Tryz.ntmps104
        go_wp2
        go_ret2
        exact ⟨ret_pair (by simp only [mvDel]; rw [if_neg E.out, if_pos (by assumption)]) (by simp only [mvDel]; first | rw [if_pos (by assumption)] | rw [if_neg (by omega)]), rfl⟩
    · clear e1
      by_cases e3 : low < r
      all_goals
        go_enter Tryz.func104, Tryz.ntmps104
        go_wp2
        go_ret2
        exact ⟨ret_pair (by simp only [mvDel]; rw [if_neg E.out, if_neg (by omega)]) (by simp only [mvDel]; first | rw [if_pos (by assumption)] | rw [if_neg (by omega)]), rfl⟩
set_option maxHeartbeats 1000000 in
theorem stabilize1_any (c r r0 a : Int) (b stays : Bool) (g1 g2 g3 : Nat) (w : World) (h0 : 0 ≤ c) (h1 : c ≤ 1000) (h2 : 0 ≤ a) (h3 : a ≤ 1000) (h4 : 0 ≤ r) (h5 : r ≤ 1000) (h6 : 0 ≤ r0) (h7 : r0 ≤ 1000)
    (hc : w.cell? ⟨g1, 0, none⟩ = some (.int .i64 r0)) (hc' : w.cell? ⟨g2, 0, none⟩ = some (.bool stays)) (hc'' : w.cell? ⟨g3, 0, none⟩ = some (.int .i64 a)) :
    Calls Tryz.prog 105 #[.int .i64 c, .int .i64 r, .bool b, .pointer (some ⟨g1, 0, none⟩), .pointer (some ⟨g2, 0, none⟩), .pointer (some ⟨g3, 0, none⟩)] w fun e w' => e = .returned (.tuple #[.int .i64 (mvAdd r0 stays a c r b).1, .int .i64 (mvAdd r0 stays a c r b).2]) ∧ w = w' := by
  by_cases e1 : r0 < r
  · by_cases e2 : a ≤ c
    all_goals
      go_enter Tryz.func105, Tryz.ntmps105
      go_wp2
      go_ret2
      exact ⟨ret_pair (by simp only [mvAdd]; first | rw [if_pos (by assumption)] | rw [if_neg (by omega)]) (by simp only [mvAdd]; rw [if_pos (.inl (by assumption))]), rfl⟩
  · by_cases e3 : r = r0
    · have b3 : (r == r0) = true := by simpa using e3
      have E := Lib.hid e3
      clear e3
      cases b <;> cases stays
      all_goals
        by_cases e2 : a ≤ c
        all_goals
          go_enter Tryz.func105, Tryz.ntmps105
          go_wp2
          go_ret2
          exact ⟨ret_pair (by simp only [mvAdd]; first | rw [if_pos (by assumption)] | rw [if_neg (by omega)]) (by simp only [mvAdd]; first | rw [if_pos (.inr ⟨E.out, by decide⟩)] | rw [if_neg (by rintro (h | ⟨_, h⟩); omega; exact h rfl)]), rfl⟩
    · have b3 : (r == r0) = false := by simpa using e3
      have E := Lib.hid e3
      clear e3
      by_cases e2 : a ≤ c
      all_goals
        go_enter Tryz.func105, Tryz.ntmps105
        go_wp2
        go_ret2
        exact ⟨ret_pair (by simp only [mvAdd]; first | rw [if_pos (by assumption)] | rw [if_neg (by omega)]) (by simp only [mvAdd]; rw [if_neg (by rintro (h | ⟨h, _⟩); omega; exact E.out h)]), rfl⟩
def limAt (k n : Int) : Int := if k = 1 then 1 else if k = 2 then n - 1 else if k = 3 then n else if k = 4 then n + 1 else 0
def limVar (k n : Int) : Int := if k = 1 then 1 else if k = 2 then 1 else if k = 3 then 1 else if k = 4 then 2 * n else 0
set_option maxHeartbeats 400000 in
theorem limits_any (k n : Int) (w : World) (h0 : 0 ≤ n) (h1 : n ≤ 100) :
    Calls Tryz.prog 73 #[.int .i64 k, .int .i64 n] w fun e w' => e = .returned (.tuple #[.int .i64 (limAt k n), .int .i64 (limVar k n)]) ∧ w = w' := by
  by_cases e1 : k = 1
  · subst e1
    go_enter Tryz.func73, Tryz.ntmps73
    go_wp2
    go_ret2
    exact ⟨rfl, rfl⟩
  by_cases e2 : k = 2
  · subst e2
    go_enter Tryz.func73, Tryz.ntmps73
    go_wp2
    go_ret2
    exact ⟨rfl, rfl⟩
  by_cases e3 : k = 3
  · subst e3
    go_enter Tryz.func73, Tryz.ntmps73
    go_wp2
    go_ret2
    exact ⟨rfl, rfl⟩
  by_cases e4 : k = 4
  · subst e4
    go_enter Tryz.func73, Tryz.ntmps73
    go_wp2
    go_ret2
    exact ⟨rfl, rfl⟩
  have b1 : (k == 1) = false := by simpa using e1
  have b2 : (k == 2) = false := by simpa using e2
  have b3 : (k == 3) = false := by simpa using e3
  have b4 : (k == 4) = false := by simpa using e4
  have E : limAt k n = 0 := by simp [limAt, e1, e2, e3, e4]
  have F : limVar k n = 0 := by simp [limVar, e1, e2, e3, e4]
  rw [E, F]
  clear E F e1 e2 e3 e4
  go_enter Tryz.func73, Tryz.ntmps73
  go_wp2
  go_ret2
  exact ⟨rfl, rfl⟩
end Go.Proofs.YteliflcbegcdlaaGreatDoor

namespace Go.Proofs.YteliflcbegcdlaaGreatDoor
set_option linter.unusedVariables false
open Go.RowKit
/-- each element is in range, and none occurs before -/
def permFrom (n : Nat) (seen : List Int) : List Int → Bool
  | [] => true
  | x :: xs => decide (0 ≤ x) && decide (x < n) && !(seen.contains x) && permFrom n (seen ++ [x]) xs
def permB (l : List Int) : Bool := permFrom l.length [] l
def seenRow (n : Nat) (s : List Int) : List Value := (List.range n).map fun i : Nat => Value.bool (s.contains (i : Int))
theorem seenRow_get {n : Nat} {s : List Int} {i : Nat} (h : i < n) : (seenRow n s)[i]? = some (.bool (s.contains (i : Int))) := by
  simp [seenRow, h]
theorem seenRow_nil (n : Nat) : seenRow n [] = List.replicate n (.bool false) := by
  apply List.ext_getElem?
  intro i
  by_cases h : i < n <;> simp [seenRow, h]
theorem seenRow_set {n : Nat} {s : List Int} {i : Nat} (_ : i < n) : (seenRow n s).set i (.bool true) = seenRow n (s ++ [(i : Int)]) := by
  apply List.ext_getElem?
  intro j
  rw [List.getElem?_set]
  by_cases hj : j < n
  · by_cases e : i = j
    · subst e; simp [seenRow, hj]
    · simp [seenRow, hj, e]
      intro h; omega
  · simp [seenRow, hj]; omega
theorem permFrom_drop (l : List Int) (k : Nat) (h : k < l.length) (m : Nat) :
    permFrom m (l.take k) (l.drop k) = (decide (0 ≤ l[k]) && decide (l[k] < m) && !((l.take k).contains l[k]) && permFrom m (l.take (k + 1)) (l.drop (k + 1))) := by
  rw [List.drop_eq_getElem_cons h, permFrom, List.take_succ_eq_append_getElem h]
theorem info_bool : (Tryz.prog.info? 4).map (fun i => (i.zero, i.size, i.bytes)) = some (some (.bool false), 1, 1) := by kernel_rfl
set_option maxHeartbeats 400000 in
theorem permutation_any (v : Value) (l : List Int) (w : World) (h : Ints w v l) (hn : l.length ≤ 1000) :
    Calls Tryz.prog 44 #[v] w fun e w' => e = .returned (.bool (permB l)) ∧ Below w.heap.size w w' := by
  have h0 := h
  obtain ⟨A, c, rfl, hc, hh⟩ := h
  clear hh
  obtain ⟨i0, hi0, hz0, hz1, hz2⟩ := info_parts info_bool
  have hmk := fun W => run_make_one (P := Tryz.prog) 101 4 i0 (.bool false) Tryz.underlying101 hi0 hz0 hz1 rfl (by rw [hz2]; decide) l.length (by omega) W
  clear hi0 hz0 hz1 hz2
  go_enter Tryz.func44, Tryz.ntmps44
  go_wp2
  go_loopw [11] (fun i wr => ∃ k : Nat, k ≤ l.length ∧ i = .int .i64 k ∧ Arr wr w.heap.size 4 (seenRow l.length (l.take k)) ∧ Below w.heap.size w wr ∧ Hid (permB l = permFrom l.length (l.take k) (l.drop k))) (fun i _ => l.length - (intOf i).toNat)
  case atStart => 
    refine ⟨0, Nat.zero_le _, rfl, ?_, (Below.refl _ _).alloc (Nat.le_refl _) _, rfl⟩
    rw [List.take_zero, seenRow_nil]
    exact Arr.new w 4 (List.replicate l.length (.bool false))
  case round =>
    obtain ⟨k, hk, rfl, harr, hbel, hp⟩ := hrel
    by_cases hlt : k < l.length
    · obtain ⟨b, o, rfl, hb, hcell⟩ := h0.at_ hlt
      have hcell' := (hbel.cell (p := ⟨b, o + k, none⟩) hb).trans hcell
      rw [permFrom_drop l k hlt] at hp
      have htk : Hid (l.take (k + 1) = l.take k ++ [l[k]]) := List.take_succ_eq_append_getElem hlt
      generalize l[k] = x at *
      clear hcell h0
      by_cases hx0 : x < 0
      · have hx0' : decide (0 ≤ x) = false := by simp; omega
        rw [hx0'] at hp
        simp only [Bool.false_and] at hp
        clear hx0'
        go_wp2
        go_ret
        exact ⟨by rw [hp.out]; rfl, hbel⟩
      by_cases hx1 : x < l.length
      · obtain ⟨m, rfl⟩ := Int.eq_ofNat_of_zero_le (Int.not_lt.1 hx0)
        have hm : m < l.length := by omega
        have hs := (harr.cell m).trans (seenRow_get hm)
        have hf := harr.frozen m
        by_cases hsn : (l.take k).contains (m : Int) = true
        · rw [hsn] at hs hp
          simp only [Bool.not_true, Bool.and_false, Bool.false_and] at hp
          go_wp2
          go_ret
          exact ⟨by rw [hp.out]; rfl, hbel⟩
        · rw [Bool.not_eq_true] at hsn
          rw [hsn] at hs hp
          have e1 : decide ((0 : Int) ≤ (m : Int)) = true := by simp
          have e2 : decide ((m : Int) < (l.length : Int)) = true := by simp; omega
          rw [e1, e2] at hp
          simp only [Bool.not_false, Bool.and_true, Bool.true_and] at hp
          clear e1 e2 hsn hx0 hx1
          go_wp2
          go_roundw
          case rel => exact ⟨k + 1, by omega, by go_num, by rw [htk.out, ← seenRow_set hm]; exact harr.set _ _, hbel.setCell (Nat.le_refl _) _, hp⟩
          case measure => simp [intOf]; omega
      · have hx0' : decide (x < (l.length : Int)) = false := by simp; omega
        rw [hx0'] at hp
        simp only [Bool.false_and, Bool.and_false] at hp
        clear hx0'
        go_wp2
        go_ret
        exact ⟨by rw [hp.out]; rfl, hbel⟩
    · obtain rfl : k = l.length := by omega
      rw [List.drop_length] at hp
      go_wp2
      go_ret
      exact ⟨by rw [hp.out]; rfl, hbel⟩
end Go.Proofs.YteliflcbegcdlaaGreatDoor
