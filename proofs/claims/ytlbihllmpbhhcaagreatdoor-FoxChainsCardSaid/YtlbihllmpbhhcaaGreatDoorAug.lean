/- fox.Augment, laurent.Of, word.Exponents. -/
import Derived.Test.YtlbihllmpbhhcaaGreatDoorCoe
import Derived.Test.YtlbihllmpbhhcaaGreatDoorPsu
import Derived.Test.YtlbihllmpbhhcaaGreatDoorMvd
import Derived.Test.YtlbihllmpbhhcaaGreatDoorPsh
import Derived.Test.YtlbihllmpbhhcaaGreatDoorWvl
namespace Go.Proofs.YtlbihllmpbhhcaaGreatDoor
open Go.RowKit
set_option linter.unusedVariables false

theorem lowL_le {l : List (Int × Int)} (h : Srt l) : ∀ t ∈ l, lowL l ≤ t.1 := by
  cases l with
  | nil => intro t h; cases h
  | cons s l =>
    intro t ht
    show s.1 ≤ t.1
    rcases List.mem_cons.1 ht with rfl | ht
    · omega
    · have := (List.pairwise_cons.1 h).1 t ht; omega
theorem highL_ge {l : List (Int × Int)} (h : Srt l) : ∀ t ∈ l, t.1 ≤ highL l := by
  intro t ht
  have h0 : 0 < l.length := List.length_pos_of_mem ht
  rw [highL_0 h0]
  obtain ⟨i, hi, rfl⟩ := List.getElem_of_mem ht
  by_cases e : i = l.length - 1
  · subst e; exact Int.le_refl _
  · have := List.pairwise_iff_getElem.1 h i (l.length - 1) hi (by omega) (by omega); omega
theorem lowhigh {l : List (Int × Int)} (h : Srt l) : lowL l ≤ highL l := by
  cases l with
  | nil => exact Int.le_refl _
  | cons s l => exact highL_ge h s (List.mem_cons_self ..)
theorem lowL_bd {l : List (Int × Int)} (h : Lim l) : -1048576 ≤ lowL l ∧ lowL l ≤ 1048576 := by
  cases l with
  | nil => exact ⟨by decide, by decide⟩
  | cons s l => exact h.ex s (List.mem_cons_self ..)
theorem highL_bd {l : List (Int × Int)} (h : Lim l) : -1048576 ≤ highL l ∧ highL l ≤ 1048576 := by
  rcases Nat.eq_zero_or_pos l.length with h0 | h0
  · rw [List.eq_nil_of_length_eq_zero h0]; exact ⟨by decide, by decide⟩
  · rw [highL_0 h0]; exact h.ex _ (List.getElem_mem _)
end Go.Proofs.YtlbihllmpbhhcaaGreatDoor
