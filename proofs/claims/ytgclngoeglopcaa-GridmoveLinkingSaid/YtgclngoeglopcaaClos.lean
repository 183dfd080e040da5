/- The closures that gridmove hands to relocate, and gridmove.limits. -/
import Derived.Test.YtgclngoeglopcaaProg
import Derived.Test.YtgclngoeglopcaaBase
import Derived.KernelRfl
import Derived.Outline
namespace Go.Proofs.Ytgclngoeglopcaa
open Go.RowKit
set_option linter.unusedVariables false

def mvT (c r : Int) (_ : Bool) : Int × Int := (r, c)
def mvRot (n : Int) (c r : Int) (_ : Bool) : Int × Int := ((c + n - 1) % n, r)
def mvSwap (a : Int) (c r : Int) (_ : Bool) : Int × Int := (if c = a then c + 1 else if c = a + 1 then c - 1 else c, r)
def mvDel (low a : Int) (c r : Int) (_ : Bool) : Int × Int := (if c = a then -1 else if a < c then c - 1 else c, if low < r then r - 1 else r)
def mvAdd (r0 : Int) (stays : Bool) (a : Int) (c r : Int) (isX : Bool) : Int × Int := (if a ≤ c then c + 1 else c, if r0 < r ∨ (r = r0 ∧ isX ≠ stays) then r + 1 else r)

theorem ret_pair {a b c d : Int} (h1 : a = c) (h2 : b = d) : Ending.returned (.tuple #[.int .i64 a, .int .i64 b]) = .returned (.tuple #[.int .i64 c, .int .i64 d]) := by rw [h1, h2]

theorem transpose1_any (c r : Int) (b : Bool) (w : World) :
    Calls Try.prog 47 #[.int .i64 c, .int .i64 r, .bool b] w fun e w' => e = .returned (.tuple #[.int .i64 (mvT c r b).1, .int .i64 (mvT c r b).2]) ∧ w = w' := by
  go_enter Try.func47, Try.ntmps47
  go_wp2
  go_ret2
  exact ⟨rfl, rfl⟩

theorem columns1_any (c r n : Int) (b : Bool) (g : Nat) (w : World) (h0 : 0 ≤ c) (h1 : c ≤ 1000) (h2 : 1 ≤ n) (h3 : n ≤ 1000) (hc : w.cell? ⟨g, 0, none⟩ = some (.int .i64 n)) :
    Calls Try.prog 42 #[.int .i64 c, .int .i64 r, .bool b, .pointer (some ⟨g, 0, none⟩)] w fun e w' => e = .returned (.tuple #[.int .i64 (mvRot n c r b).1, .int .i64 (mvRot n c r b).2]) ∧ w = w' := by
  have hz : (n == 0) = false := by simp; omega
  go_enter Try.func42, Try.ntmps42
  go_wp2
  go_ret2
  exact ⟨rfl, rfl⟩

set_option maxHeartbeats 400000 in
theorem columns2_any (c r a : Int) (b : Bool) (g : Nat) (w : World) (h0 : 0 ≤ c) (h1 : c ≤ 1000) (h2 : 0 ≤ a) (h3 : a ≤ 1000) (hc : w.cell? ⟨g, 2, none⟩ = some (.int .i64 a)) :
    Calls Try.prog 44 #[.int .i64 c, .int .i64 r, .bool b, .pointer (some ⟨g, 0, none⟩)] w fun e w' => e = .returned (.tuple #[.int .i64 (mvSwap a c r b).1, .int .i64 (mvSwap a c r b).2]) ∧ w = w' := by
  by_cases e1 : c = a
  · have b1 : (c == a) = true := by simpa using e1
    have E := Lib.hid e1
    clear e1
    go_enter Try.func44, Try.ntmps44
    go_wp2
    go_ret2
    exact ⟨ret_pair (by simp [mvSwap, E.out]) rfl, rfl⟩
  · have b1 : (c == a) = false := by simpa using e1
    by_cases e2 : c = a + 1
    · have b2 : (c == a + 1) = true := by simpa using e2
      have E := Lib.hid e1
      have E2 := Lib.hid e2
      clear e1 e2
      go_enter Try.func44, Try.ntmps44
      go_wp2
      go_ret2
      exact ⟨ret_pair (by simp only [mvSwap]; rw [if_neg E.out, if_pos E2.out]) rfl, rfl⟩
    · have b2 : (c == a + 1) = false := by simpa using e2
      have E := Lib.hid e1
      have E2 := Lib.hid e2
      clear e1 e2
      go_enter Try.func44, Try.ntmps44
      go_wp2
      go_ret2
      exact ⟨ret_pair (by simp only [mvSwap]; rw [if_neg E.out, if_neg E2.out]) rfl, rfl⟩

set_option maxHeartbeats 400000 in
theorem destabilize1_any (c r low a : Int) (b : Bool) (gl ga : Nat) (w : World) (h0 : 0 ≤ c) (h1 : c ≤ 1000) (h2 : 0 ≤ a) (h3 : a ≤ 1000) (h4 : 0 ≤ r) (h5 : r ≤ 1000) (h6 : 0 ≤ low) (h7 : low ≤ 1000)
    (hc : w.cell? ⟨gl, 0, none⟩ = some (.int .i64 low)) (hc' : w.cell? ⟨ga, 0, none⟩ = some (.int .i64 a)) :
    Calls Try.prog 56 #[.int .i64 c, .int .i64 r, .bool b, .pointer (some ⟨gl, 0, none⟩), .pointer (some ⟨ga, 0, none⟩)] w fun e w' => e = .returned (.tuple #[.int .i64 (mvDel low a c r b).1, .int .i64 (mvDel low a c r b).2]) ∧ w = w' := by
  by_cases e1 : c = a
  · have b1 : (c == a) = true := by simpa using e1
    have E := Lib.hid e1
    clear e1
    by_cases e3 : low < r
    all_goals
      go_enter Try.func56, Try.ntmps56
      go_wp2
      go_ret2
      exact ⟨ret_pair (by simp only [mvDel]; rw [if_pos E.out]) (by simp only [mvDel]; first | rw [if_pos (by assumption)] | rw [if_neg (by omega)]), rfl⟩
  · have b1 : (c == a) = false := by simpa using e1
    have E := Lib.hid e1
    by_cases e2 : a < c
    · clear e1
      by_cases e3 : low < r
      all_goals
        go_enter Try.func56, Try.ntmps56
        go_wp2
        go_ret2
        exact ⟨ret_pair (by simp only [mvDel]; rw [if_neg E.out, if_pos (by assumption)]) (by simp only [mvDel]; first | rw [if_pos (by assumption)] | rw [if_neg (by omega)]), rfl⟩
    · clear e1
      by_cases e3 : low < r
      all_goals
        go_enter Try.func56, Try.ntmps56
        go_wp2
        go_ret2
        exact ⟨ret_pair (by simp only [mvDel]; rw [if_neg E.out, if_neg (by omega)]) (by simp only [mvDel]; first | rw [if_pos (by assumption)] | rw [if_neg (by omega)]), rfl⟩

set_option maxHeartbeats 1000000 in
theorem stabilize1_any (c r r0 a : Int) (b stays : Bool) (g1 g2 g3 : Nat) (w : World) (h0 : 0 ≤ c) (h1 : c ≤ 1000) (h2 : 0 ≤ a) (h3 : a ≤ 1000) (h4 : 0 ≤ r) (h5 : r ≤ 1000) (h6 : 0 ≤ r0) (h7 : r0 ≤ 1000)
    (hc : w.cell? ⟨g1, 0, none⟩ = some (.int .i64 r0)) (hc' : w.cell? ⟨g2, 0, none⟩ = some (.bool stays)) (hc'' : w.cell? ⟨g3, 0, none⟩ = some (.int .i64 a)) :
    Calls Try.prog 57 #[.int .i64 c, .int .i64 r, .bool b, .pointer (some ⟨g1, 0, none⟩), .pointer (some ⟨g2, 0, none⟩), .pointer (some ⟨g3, 0, none⟩)] w fun e w' => e = .returned (.tuple #[.int .i64 (mvAdd r0 stays a c r b).1, .int .i64 (mvAdd r0 stays a c r b).2]) ∧ w = w' := by
  by_cases e1 : r0 < r
  · by_cases e2 : a ≤ c
    all_goals
      go_enter Try.func57, Try.ntmps57
      go_wp2
      go_ret2
      exact ⟨ret_pair (by simp only [mvAdd]; first | rw [if_pos (by assumption)] | rw [if_neg (by omega)]) (by simp only [mvAdd]; rw [if_pos (.inl (by assumption))]), rfl⟩
  · by_cases e3 : r = r0
    · have b3 : (r == r0) = true := by simpa using e3
      have E := Lib.hid e3
      clear e3
      cases b <;> cases stays
      all_goals
        by_cases e2 : a ≤ c
        all_goals
          go_enter Try.func57, Try.ntmps57
          go_wp2
          go_ret2
          exact ⟨ret_pair (by simp only [mvAdd]; first | rw [if_pos (by assumption)] | rw [if_neg (by omega)]) (by simp only [mvAdd]; first | rw [if_pos (.inr ⟨E.out, by decide⟩)] | rw [if_neg (by rintro (h | ⟨_, h⟩); omega; exact h rfl)]), rfl⟩
    · have b3 : (r == r0) = false := by simpa using e3
      have E := Lib.hid e3
      clear e3
      by_cases e2 : a ≤ c
      all_goals
        go_enter Try.func57, Try.ntmps57
        go_wp2
        go_ret2
        exact ⟨ret_pair (by simp only [mvAdd]; first | rw [if_pos (by assumption)] | rw [if_neg (by omega)]) (by simp only [mvAdd]; rw [if_neg (by rintro (h | ⟨h, _⟩); omega; exact E.out h)]), rfl⟩

def limAt (k n : Int) : Int := if k = 1 then 1 else if k = 2 then n - 1 else if k = 3 then n else if k = 4 then n + 1 else 0
def limVar (k n : Int) : Int := if k = 1 then 1 else if k = 2 then 1 else if k = 3 then 1 else if k = 4 then 2 * n else 0

set_option maxHeartbeats 400000 in
theorem limits_any (k n : Int) (w : World) (h0 : 0 ≤ n) (h1 : n ≤ 100) :
    Calls Try.prog 27 #[.int .i64 k, .int .i64 n] w fun e w' => e = .returned (.tuple #[.int .i64 (limAt k n), .int .i64 (limVar k n)]) ∧ w = w' := by
  by_cases e1 : k = 1
  · subst e1
    go_enter Try.func27, Try.ntmps27
    go_wp2
    go_ret2
    exact ⟨rfl, rfl⟩
  by_cases e2 : k = 2
  · subst e2
    go_enter Try.func27, Try.ntmps27
    go_wp2
    go_ret2
    exact ⟨rfl, rfl⟩
  by_cases e3 : k = 3
  · subst e3
    go_enter Try.func27, Try.ntmps27
    go_wp2
    go_ret2
    exact ⟨rfl, rfl⟩
  by_cases e4 : k = 4
  · subst e4
    go_enter Try.func27, Try.ntmps27
    go_wp2
    go_ret2
    exact ⟨rfl, rfl⟩
  have b1 : (k == 1) = false := by simpa using e1
  have b2 : (k == 2) = false := by simpa using e2
  have b3 : (k == 3) = false := by simpa using e3
  have b4 : (k == 4) = false := by simpa using e4
  have E : limAt k n = 0 := by simp [limAt, e1, e2, e3, e4]
  have F : limVar k n = 0 := by simp [limVar, e1, e2, e3, e4]
  rw [E, F]
  clear E F e1 e2 e3 e4
  go_enter Try.func27, Try.ntmps27
  go_wp2
  go_ret2
  exact ⟨rfl, rfl⟩
end Go.Proofs.Ytgclngoeglopcaa
