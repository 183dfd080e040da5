/- The search of package unknot as a plain function: its states, its run, runs with other budgets (plain). -/
import Derived.Test.YteliflcbegcdlaaGreatDoorZCyc
import Derived.Test.YteliflcbegcdlaaGreatDoorZTls
namespace Go.Proofs.YteliflcbegcdlaaGreatDoor
open Go.RowKit
set_option linter.unusedVariables false
abbrev Gd := List Int × List Int
/-- the least translation -/
def lstK (X O : List Int) : Nat → Gd
  | 0 => cand X O 0
  | k + 1 => if cmpP (cand X O (k + 1)) (lstK X O k) < 0 then cand X O (k + 1) else lstK X O k
def lstM (g : Gd) : Gd := lstK g.1 g.2 (g.1.length - 1)
theorem lstK_is (X O : List Int) : ∀ k, IsL X O (k + 1) (lstK X O k)
  | 0 => IsL.first X O
  | k + 1 => by
    rw [lstK]
    split
    · next h => exact (lstK_is X O k).take h
    · next h => exact (lstK_is X O k).keep h
theorem lstM_of {X O : List Int} {p : Gd} (hn : 0 < X.length) (h : IsL X O X.length p) : p = lstM (X, O) := by
  have k := lstK_is X O (X.length - 1)
  rw [Nat.sub_add_cancel hn] at k
  exact h.uniq k (fun i hi => ⟨i, hi, rfl⟩) (fun j hj => ⟨j, hj, rfl⟩)
/-! ### the neighbors -/
def rmM (r : Bool) (i : Int) : Mv := ⟨3, r, i, 0⟩
def coM (r : Bool) (i : Int) : Mv := ⟨2, r, i, 0⟩
def tuM (r : Bool) : Mv := ⟨1, r, 0, 0⟩
/-- the moves of a try lead somewhere -/
def tryM (g : Gd) (ms : List Mv) : List (List Mv × Gd) :=
  if (playM g.1 g.2 ms).2.2.2 < 0 ∧ (playM g.1 g.2 ms).1 = 0 then [(ms, (playM g.1 g.2 ms).2.1, (playM g.1 g.2 ms).2.2.1)] else []
def rmL (g : Gd) (r : Bool) (i : Nat) : List Mv := if (applyM g.1 g.2 3 r i 0).1 = 0 then [rmM r i] else [tuM (!r), rmM r i]
def nb1 (g : Gd) (r : Bool) (k : Nat) : List (List Mv × Gd) := (List.range k).flatMap fun i : Nat => tryM g (rmL g r i)
def nb2 (g : Gd) (r : Bool) (k : Nat) : List (List Mv × Gd) := (List.range k).flatMap fun i : Nat => tryM g [coM r (i : Int)]
def nb3 (g : Gd) (r : Bool) : List (List Mv × Gd) := tryM g [tuM r, coM r ((g.1.length : Int) - 2)]
def nbR (g : Gd) (r : Bool) : List (List Mv × Gd) := nb1 g r g.1.length ++ nb2 g r (g.1.length - 1) ++ nb3 g r
def nbrs (g : Gd) : List (List Mv × Gd) := nbR g false ++ nbR g true
/-! ### states -/
structure En where
  key : Gd
  ms : List Mv
  fr : Option Gd
abbrev St := List En × List (List Gd)
def hasK (K : List En) (c : Gd) : Bool := K.any fun e => decide (e.key = c)
def addM (most : Int) (s : St) (g : Gd) (fr : Option Gd) (ms : List Mv) : Option St :=
  if hasK s.1 (lstM g) = true then some s
  else if most ≤ (s.1.length : Int) then none
  else some (s.1 ++ [⟨lstM g, ms, fr⟩], s.2.modify g.1.length (· ++ [g]))
def addAll (most : Int) (fr : Option Gd) : St → List (List Mv × Gd) → Option St
  | s, [] => some s
  | s, (ms, g) :: t => match addM most s g fr ms with
    | none => none
    | some s' => addAll most fr s' t
def nextM : List (List Gd) → Option (Gd × List (List Gd))
  | [] => none
  | [] :: t => (nextM t).map fun p => (p.1, [] :: p.2)
  | (g :: l) :: t => some (g, l :: t)
/-- how a search ends -/
inductive Res
  | fuel
  | done (K : List En)
  | found (K : List En) (c : Gd)
/-- a run from a state -/
inductive Run (most : Int) (short : Bool) : St → Res → Prop
  | done {s : St} (h : nextM s.2 = none) : Run most short s (.done s.1)
  | found {s : St} {g : Gd} {W : List (List Gd)} (h : nextM s.2 = some (g, W)) (hs : short = true) (h2 : g.1.length = 2) : Run most short s (.found s.1 (lstM g))
  | fuel {s : St} {g : Gd} {W : List (List Gd)} (h : nextM s.2 = some (g, W)) (hs : ¬ (short = true ∧ g.1.length = 2)) (ha : addAll most (some (lstM g)) (s.1, W) (nbrs g) = none) : Run most short s .fuel
  | step {s s' : St} {g : Gd} {W : List (List Gd)} {r : Res} (h : nextM s.2 = some (g, W)) (hs : ¬ (short = true ∧ g.1.length = 2)) (ha : addAll most (some (lstM g)) (s.1, W) (nbrs g) = some s') (hr : Run most short s' r) : Run most short s r
theorem Run.det {most : Int} {short : Bool} {s : St} {r : Res} (h : Run most short s r) : ∀ {r' : Res}, Run most short s r' → r = r' := by
  induction h with
  | done h =>
    intro r' h'
    cases h' with
    | done _ => rfl
    | found h1 _ _ => rw [h] at h1; cases h1
    | fuel h1 _ _ => rw [h] at h1; cases h1
    | step h1 _ _ _ => rw [h] at h1; cases h1
  | found h hs h2 =>
    intro r' h'
    cases h' with
    | done h1 => rw [h] at h1; cases h1
    | found h1 _ _ => rw [h] at h1; injection h1 with h1; injection h1 with h1 _; rw [h1]
    | fuel h1 k _ => rw [h] at h1; injection h1 with h1; injection h1 with h1 _; subst h1; exact absurd ⟨hs, h2⟩ k
    | step h1 k _ _ => rw [h] at h1; injection h1 with h1; injection h1 with h1 _; subst h1; exact absurd ⟨hs, h2⟩ k
  | fuel h hs ha =>
    intro r' h'
    cases h' with
    | done h1 => rw [h] at h1; cases h1
    | found h1 k1 k2 => rw [h] at h1; injection h1 with h1; injection h1 with h1 _; subst h1; exact absurd ⟨k1, k2⟩ hs
    | fuel _ _ _ => rfl
    | step h1 _ ha' _ => rw [h] at h1; injection h1 with h1; injection h1 with h1 h2; subst h1; subst h2; rw [ha] at ha'; cases ha'
  | step h hs ha hr ih =>
    intro r' h'
    cases h' with
    | done h1 => rw [h] at h1; cases h1
    | found h1 k1 k2 => rw [h] at h1; injection h1 with h1; injection h1 with h1 _; subst h1; exact absurd ⟨k1, k2⟩ hs
    | fuel h1 _ ha' => rw [h] at h1; injection h1 with h1; injection h1 with h1 h2; subst h1; subst h2; rw [ha] at ha'; cases ha'
    | step h1 _ ha' hr' => rw [h] at h1; injection h1 with h1; injection h1 with h1 h2; subst h1; subst h2; rw [ha] at ha'; injection ha' with ha'; subst ha'; exact ih hr'
/-! ### runs with other budgets -/
theorem addM_len {most : Int} {s s' : St} {g : Gd} {fr : Option Gd} {ms : List Mv} (h : addM most s g fr ms = some s') : ∃ E, s'.1 = s.1 ++ E := by
  unfold addM at h
  split at h
  · injection h with h; subst h; exact ⟨[], by simp⟩
  · split at h
    · cases h
    · injection h with h; subst h; exact ⟨_, rfl⟩
theorem addAll_len {most : Int} {fr : Option Gd} : ∀ (l : List (List Mv × Gd)) {s s' : St}, addAll most fr s l = some s' → ∃ E, s'.1 = s.1 ++ E
  | [], s, s', h => by injection h with h; subst h; exact ⟨[], by simp⟩
  | (ms, g) :: t, s, s', h => by
    unfold addAll at h
    cases h1 : addM most s g fr ms with
    | none => rw [h1] at h; cases h
    | some s1 =>
      rw [h1] at h
      obtain ⟨E, e⟩ := addM_len h1
      obtain ⟨E', e'⟩ := addAll_len t h
      exact ⟨E ++ E', by rw [e', e, List.append_assoc]⟩
/-- with a smaller budget: the same, or none where the budget is below what is found -/
theorem addM_other {n m : Int} {s s' : St} {g : Gd} {fr : Option Gd} {ms : List Mv} (h : addM n s g fr ms = some s') : addM m s g fr ms = some s' ∨ (addM m s g fr ms = none ∧ m < (s'.1.length : Int)) := by
  unfold addM at h ⊢
  split at h
  · next c => rw [if_pos c]; exact .inl h
  · next c =>
    rw [if_neg c]
    split at h
    · cases h
    · by_cases k : m ≤ (s.1.length : Int)
      · right
        rw [if_pos k]
        injection h with h
        subst h
        exact ⟨rfl, by simp; omega⟩
      · left; rw [if_neg k]; exact h
theorem addAll_other {n m : Int} {fr : Option Gd} : ∀ (l : List (List Mv × Gd)) {s s' : St}, addAll n fr s l = some s' → addAll m fr s l = some s' ∨ (addAll m fr s l = none ∧ m < (s'.1.length : Int))
  | [], s, s', h => .inl h
  | (ms, g) :: t, s, s', h => by
    unfold addAll at h ⊢
    cases h1 : addM n s g fr ms with
    | none => rw [h1] at h; cases h
    | some s1 =>
      rw [h1] at h
      rcases addM_other (m := m) h1 with e | ⟨e, k⟩
      · rw [e]; exact addAll_other t h
      · right
        rw [e]
        obtain ⟨E, e'⟩ := addAll_len t h
        refine ⟨rfl, ?_⟩
        rw [e', List.length_append]; omega
theorem Run.len {n : Int} {short : Bool} {s : St} {r : Res} (h : Run n short s r) : ∀ {K : List En}, (r = .done K ∨ ∃ c, r = .found K c) → ∃ E, K = s.1 ++ E := by
  induction h with
  | done h => intro K e; rcases e with e | ⟨c, e⟩ <;> cases e; exact ⟨[], by simp⟩
  | found h hs h2 => intro K e; rcases e with e | ⟨c, e⟩ <;> cases e; exact ⟨[], by simp⟩
  | fuel h hs ha => intro K e; rcases e with e | ⟨c, e⟩ <;> cases e
  | step h hs ha hr ih =>
    intro K e
    obtain ⟨E, e1⟩ := ih e
    obtain ⟨E', e2⟩ := addAll_len _ ha
    exact ⟨E' ++ E, by rw [e1, e2, List.append_assoc]⟩
/-- a run that reaches all, against a run with another budget -/
theorem Run.other {n : Int} {s : St} {r : Res} (h : Run n false s r) : ∀ {K : List En}, r = .done K → ∀ {m : Int} {short : Bool} {r' : Res}, Run m short s r' →
    (r' = .fuel ∧ m < (K.length : Int)) ∨ r' = .done K ∨ (short = true ∧ ∃ K' c, r' = .found K' c) := by
  induction h with
  | done h =>
    intro K e m short r' h'
    injection e with e
    subst e
    cases h' with
    | done _ => exact .inr (.inl rfl)
    | found h1 _ _ => rw [h] at h1; cases h1
    | fuel h1 _ _ => rw [h] at h1; cases h1
    | step h1 _ _ _ => rw [h] at h1; cases h1
  | found h hs h2 => intro K e; cases e
  | fuel h hs ha => intro K e; cases e
  | step h hs ha hr ih =>
    intro K e m short r' h'
    cases h' with
    | done h1 => rw [h] at h1; cases h1
    | found h1 k1 k2 => exact .inr (.inr ⟨k1, _, _, rfl⟩)
    | fuel h1 k ha' =>
      rw [h] at h1; injection h1 with h1; injection h1 with h1 h2; subst h1; subst h2
      left
      refine ⟨rfl, ?_⟩
      rcases addAll_other (m := m) _ ha with q | ⟨q, q2⟩
      · rw [q] at ha'; cases ha'
      · obtain ⟨E, e1⟩ := hr.len (.inl e)
        rw [e1, List.length_append]; omega
    | step h1 k ha' hr' =>
      rw [h] at h1; injection h1 with h1; injection h1 with h1 h2; subst h1; subst h2
      rcases addAll_other (m := m) _ ha with q | ⟨q, q2⟩
      · rw [q] at ha'; injection ha' with ha'; subst ha'
        exact ih e hr'
      · rw [q] at ha'; cases ha'
end Go.Proofs.YteliflcbegcdlaaGreatDoor
