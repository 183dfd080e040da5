/- package unknot: searches with other budgets: contracts. -/
import Derived.Test.YteigjfdgijaifaaDoorZRch
import Derived.Test.YteigjfdgijaifaaDoorZLfi
namespace Go.Proofs.YteigjfdgijaifaaDoor
open Go.RowKit Go.Shelf
set_option linter.unusedVariables false

theorem comp_pos {X O : List Int} (h : Vd X O) : 0 < comp X O := by
  have hm : 0 ∈ heads (fC X O) X.length := (mem_heads (fC_perm h)).2 ⟨by have := h.two; omega, fun j hj => by omega⟩
  unfold comp cls
  exact List.length_pos_of_mem hm
theorem Exq.other {n m : Int} {g : Gd} {K : List En} {short : Bool} {r' : Res} (h : Exq n false g (.done K)) (h' : Exq m short g r') :
    (r' = .fuel ∧ m < (K.length : Int)) ∨ r' = .done K ∨ (short = true ∧ ∃ K' c, r' = .found K' c) := by
  cases h with
  | some ha hr =>
    cases h' with
    | none ha' =>
      rcases addM_other (m := m) ha with q | ⟨q, q2⟩
      · rw [q] at ha'; cases ha'
      · obtain ⟨E, e1⟩ := hr.len (.inl rfl)
        exact .inl ⟨rfl, by rw [e1, List.length_append]; omega⟩
    | some ha' hr' =>
      rcases addM_other (m := m) ha with q | ⟨q, q2⟩
      · rw [q] at ha'; injection ha' with ha'; subst ha'
        exact hr.other rfl hr'
      · rw [q] at ha'; cases ha'
section
variable {va vb : Value} {X O : List Int} {w : World} {K : List En} {m : Int}
theorem reach_full (hX : Ints w va X) (hO : Ints w vb O) (lX : X.length ≤ 1000) (lO : O.length ≤ 1000) (hv : VdG (X, O)) (hc : comp X O ≤ 1) (hK : Exq 5000 false (X, O) (.done K)) (ht : Tb w) :
    Calls Tryd.prog 14 #[.agg #[va, vb], .int .i64 (K.length : Int)] w fun e w' => (∃ A c, e = .returned (.tuple #[.slice A K.length c, .int .i64 0])) ∧ Below w.heap.size w w' := by
  have hm := hK.most K (.inl rfl)
  have h5 : (5000 : Int).toNat = 5000 := rfl
  refine (Reached_any va vb X O (K.length : Int) w hX hO lX lO (by omega) ht).mono ?_
  rintro e w' ⟨hb, h⟩
  refine ⟨?_, hb⟩
  rcases h with ⟨h, _⟩ | ⟨_, h, _⟩ | ⟨_, _, r, hr, ⟨rfl, _⟩ | ⟨K2, v, gs, rfl, hp, _, hg, rfl⟩⟩
  · exact absurd hv h
  · simp only at h; omega
  · rcases Exq.other hK hr with ⟨_, h⟩ | h | ⟨h, _⟩
    · omega
    · cases h
    · cases h
  · rcases Exq.other hK hr with ⟨h, _⟩ | h | ⟨h, _⟩
    · cases h
    · injection h with h
      subst h
      obtain ⟨A, c, rfl, _⟩ := hg
      refine ⟨A, c, ?_⟩
      rw [hp.length_eq, List.length_map]
    · cases h
theorem reach_less (hX : Ints w va X) (hO : Ints w vb O) (lX : X.length ≤ 1000) (lO : O.length ≤ 1000) (hv : VdG (X, O)) (hc : comp X O ≤ 1) (hK : Exq 5000 false (X, O) (.done K)) (h0 : 0 ≤ m) (hm : m < (K.length : Int)) (ht : Tb w) :
    Calls Tryd.prog 14 #[.agg #[va, vb], .int .i64 m] w fun e w' => e = .returned (.tuple #[.slice none 0 0, .int .i64 13]) ∧ Below w.heap.size w w' := by
  have hm5 := hK.most K (.inl rfl)
  have h5 : (5000 : Int).toNat = 5000 := rfl
  refine (Reached_any va vb X O m w hX hO lX lO (by omega) ht).mono ?_
  rintro e w' ⟨hb, h⟩
  refine ⟨?_, hb⟩
  rcases h with ⟨h, _⟩ | ⟨_, h, _⟩ | ⟨_, _, r, hr, ⟨rfl, h⟩ | ⟨K2, v, gs, rfl, hp, _, hg, rfl⟩⟩
  · exact absurd hv h
  · simp only at h; omega
  · exact h
  · have h2 := hr.most K2 (.inl rfl)
    rcases Exq.other hK hr with ⟨h, _⟩ | h | ⟨h, _⟩
    · cases h
    · injection h with h
      subst h
      omega
    · cases h
/-- what Decide answers where the budget is enough -/
def DfP (g : Gd) (w : World) (e : Ending) (w' : World) : Prop :=
  (∃ (b : Bool) (A : Option Addr) (n c : Nat) (k : Int), e = .returned (.tuple #[.agg #[.bool b, .slice A n c, .int .i64 k], .int .i64 0]) ∧ (b = false → ¬ DU g)) ∧ Below w.heap.size w w'
/-- .. and where it is not -/
def DlP (g : Gd) (w : World) (e : Ending) (w' : World) : Prop :=
  (∃ (b : Bool) (A : Option Addr) (n c : Nat) (cd : Int), e = .returned (.tuple #[.agg #[.bool b, .slice A n c, .int .i64 0], .int .i64 cd]) ∧ (b = false ∧ cd = 13 ∨ b = true ∧ cd = 0 ∧ DU g)) ∧ Below w.heap.size w w'
theorem decide_full (hX : Ints w va X) (hO : Ints w vb O) (h6 : X.length ≤ 6) (hv : VdG (X, O)) (hc : comp X O ≤ 1) (hK : Exq 5000 false (X, O) (.done K)) (ht : Tb w) :
    Calls Tryd.prog 10 #[.agg #[va, vb], .int .i64 (K.length : Int)] w (DfP (X, O) w) := by
  have hm := hK.most K (.inl rfl)
  have h5 : (5000 : Int).toNat = 5000 := rfl
  have hl : X.length = O.length := hv.len
  have hp := comp_pos hv
  refine (Decide_any va vb X O (K.length : Int) w hX hO (by omega) (by omega) (by omega) ht).mono ?_
  rintro e w' ⟨hb, h⟩
  refine ⟨?_, hb⟩
  rcases h with ⟨h, _⟩ | ⟨_, h, _⟩ | ⟨_, _, r, hr, ⟨rfl, _⟩ | ⟨K2, rfl, rfl⟩ | ⟨K2, c, L, a, v, rfl, _, _, _, _, hmv, rfl⟩⟩
  · exact absurd hv h
  · simp only at h; omega
  · rcases Exq.other hK hr with ⟨_, h⟩ | h | ⟨h, _, _, h⟩
    · omega
    · cases h
    · cases h
  · exact ⟨false, none, 0, 0, _, rfl, fun _ h => no_done hv h6 (by simp only at hp ⊢; omega) h ((Exq.pl (g := (X, O)) hv hr).1 K2 rfl)⟩
  · obtain ⟨A, c', rfl, _⟩ := hmv
    exact ⟨true, A, _, c', 0, rfl, fun h => by cases h⟩
theorem decide_less (hX : Ints w va X) (hO : Ints w vb O) (h6 : X.length ≤ 6) (hv : VdG (X, O)) (hc : comp X O ≤ 1) (hK : Exq 5000 false (X, O) (.done K)) (h0 : 0 ≤ m) (hm : m < (K.length : Int)) (ht : Tb w) :
    Calls Tryd.prog 10 #[.agg #[va, vb], .int .i64 m] w (DlP (X, O) w) := by
  have hm5 := hK.most K (.inl rfl)
  have h5 : (5000 : Int).toNat = 5000 := rfl
  have hl : X.length = O.length := hv.len
  refine (Decide_any va vb X O m w hX hO (by omega) (by omega) (by omega) ht).mono ?_
  rintro e w' ⟨hb, h⟩
  refine ⟨?_, hb⟩
  rcases h with ⟨h, _⟩ | ⟨_, h, _⟩ | ⟨_, _, r, hr, ⟨rfl, rfl⟩ | ⟨K2, rfl, rfl⟩ | ⟨K2, c, L, a, v, rfl, _, _, _, _, hmv, rfl⟩⟩
  · exact absurd hv h
  · simp only at h; omega
  · exact ⟨false, none, 0, 0, 13, rfl, .inl ⟨rfl, rfl⟩⟩
  · have h2 := hr.most K2 (.inl rfl)
    rcases Exq.other hK hr with ⟨h, _⟩ | h | ⟨_, _, _, h⟩
    · cases h
    · injection h with h
      subst h
      omega
    · cases h
  · obtain ⟨A, c', rfl, _⟩ := hmv
    exact ⟨true, A, _, c', 0, rfl, .inr ⟨rfl, rfl, found_du hv ((Exq.pl (g := (X, O)) hv hr).2 K2 c rfl)⟩⟩
end
end Go.Proofs.YteigjfdgijaifaaDoor
