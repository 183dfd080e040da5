/- The grids of size at most 6 of one component whose determinant is that of the unknot: a column or a row can be removed (plain; a finite search). -/
import Derived.Test.YteliflcbegcdlaaGreatDoorWwGdu
namespace Go.Proofs.YteliflcbegcdlaaGreatDoor
open Go.RowKit
set_option linter.unusedVariables false
/-- two rows that are neither alike nor neighbors in the cycle of n rows -/
def nadj (n : Nat) (x o : Int) : Bool := decide (x ≠ o ∧ x ≠ o + 1 ∧ o ≠ x + 1 ∧ x ≠ o + n - 1 ∧ o ≠ x + n - 1)
def pk : Nat → List Int → List (List Int)
  | 0, _ => [[]]
  | k + 1, S => S.flatMap fun x => (pk k (S.erase x)).map (x :: ·)
def pkO (n : Nat) : List Int → List Int → List (List Int)
  | [], _ => [[]]
  | x :: X, S => (S.filter (nadj n x)).flatMap fun o => (pkO n X (S.erase o)).map (o :: ·)
theorem mem_pk : ∀ (l S : List Int), l.Nodup → (∀ x ∈ l, x ∈ S) → l ∈ pk l.length S
  | [], S, _, _ => by simp [pk]
  | x :: l, S, hn, hs => by
    rw [List.nodup_cons] at hn
    rw [List.length_cons, pk, List.mem_flatMap]
    refine ⟨x, hs x (by simp), List.mem_map.2 ⟨l, mem_pk l _ hn.2 fun y hy => ?_, rfl⟩⟩
    exact (List.mem_erase_of_ne (fun e : y = _ => hn.1 (by rw [← e]; exact hy))).2 (hs y (by simp [hy]))
theorem mem_pkO (n : Nat) : ∀ (X O S : List Int), O.length = X.length → O.Nodup → (∀ x ∈ O, x ∈ S) → (∀ k, k < X.length → nadj n (gt X k) (gt O k) = true) → O ∈ pkO n X S
  | [], O, S, hl, _, _, _ => by
    obtain rfl : O = [] := List.eq_nil_of_length_eq_zero hl
    simp [pkO]
  | x :: X, [], S, hl, _, _, _ => by simp at hl
  | x :: X, o :: O, S, hl, hn, hs, ha => by
    rw [List.nodup_cons] at hn
    rw [pkO, List.mem_flatMap]
    refine ⟨o, List.mem_filter.2 ⟨hs o (by simp), ha 0 (by simp)⟩, List.mem_map.2 ⟨O, mem_pkO n X O _ (by simpa using hl) hn.2 (fun y hy => ?_) (fun k hk => ?_), rfl⟩⟩
    · exact (List.mem_erase_of_ne (fun e : y = _ => hn.1 (by rw [← e]; exact hy))).2 (hs y (by simp [hy]))
    · exact ha (k + 1) (by simpa using hk)
def rng (n : Nat) : List Int := (List.range n).map fun i : Nat => (i : Int)
theorem mem_rng {n : Nat} {x : Int} (h : 0 ≤ x ∧ x < n) : x ∈ rng n := List.mem_map.2 ⟨x.toNat, List.mem_range.2 (by omega), by omega⟩
def rowsN (n : Nat) (X O : List Int) : Bool := (List.range n).all fun k => nadj n (gt (tr X) k) (gt (tr O) k)
instance (g : Gd) : Decidable (DU g) := inferInstanceAs (Decidable (_ = _))
def chk (n : Nat) : Bool := (pk (n - 1) ((rng n).erase 0)).all fun X => (pkO n (0 :: X) (rng n)).all fun O => !(rowsN n (0 :: X) O && decide (comp (0 :: X) O = 1) && decide (DU (0 :: X, O)))
set_option maxRecDepth 100000 in
theorem chk3 : chk 3 = true := by decide +kernel
set_option maxRecDepth 100000 in
theorem chk4 : chk 4 = true := by decide +kernel
set_option maxRecDepth 100000 in
theorem chk5 : chk 5 = true := by decide +kernel
set_option maxRecDepth 100000 in
theorem chk6 : chk 6 = true := by decide +kernel
end Go.Proofs.YteliflcbegcdlaaGreatDoor
