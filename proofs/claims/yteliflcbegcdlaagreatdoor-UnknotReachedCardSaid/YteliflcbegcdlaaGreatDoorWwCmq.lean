/- Counting cycles by marks: plain facts. -/
import Derived.Test.YteliflcbegcdlaaGreatDoorWwUnp
namespace Go.Proofs.YteliflcbegcdlaaGreatDoor
set_option linter.unusedVariables false
open Go.RowKit
/-- a row of marks -/
def marks (n : Nat) (S : Nat → Bool) : List Value := (List.range n).map fun j => Value.bool (S j)
theorem marks_get {n : Nat} {S : Nat → Bool} {i : Nat} (h : i < n) : (marks n S)[i]? = some (.bool (S i)) := by simp [marks, h]
theorem marks_nil (n : Nat) : marks n (fun _ => false) = List.replicate n (.bool false) := by
  apply List.ext_getElem?
  intro i
  by_cases h : i < n <;> simp [marks, h]
def mark (S : Nat → Bool) (i : Nat) : Nat → Bool := fun j => if j = i then true else S j
theorem marks_set {n : Nat} {S : Nat → Bool} {i : Nat} : (marks n S).set i (.bool true) = marks n (mark S i) := by
  apply List.ext_getElem?
  intro j
  rw [List.getElem?_set]
  by_cases hj : j < n
  · by_cases e : i = j
    · subst e; simp [marks, hj, mark]
    · simp [marks, hj, e, mark, Ne.symm e]
  · simp [marks, hj]; omega
/-- what is marked when the numbers below k have been looked at, and how many heads there are among them -/
structure Mk (f : Nat → Nat) (n k : Nat) (S : Nat → Bool) (cnt : Nat) : Prop where
  seen : ∀ j, j < n → (S j = true ↔ ∃ m, m < k ∧ Rl f m j)
  cnt : cnt = ((heads f n).filter fun i => decide (i < k)).length
section
variable {n k cnt : Nat} {f : Nat → Nat} {S : Nat → Bool}
theorem Mk.start : Mk f n 0 (fun _ => false) 0 := ⟨fun j _ => by simp, by rw [List.filter_eq_nil_iff.2 (by simp)]; rfl⟩
theorem Mk.full (h : Mk f n n S cnt) : cnt = cls f n := by
  rw [h.cnt, cls]
  congr 1
  rw [List.filter_eq_self]
  intro i hi
  have := List.mem_range.1 (List.mem_filter.1 hi).1
  simpa using this
theorem filt_succ (l : List Nat) (k : Nat) (hn : l.Nodup) : (l.filter fun i => decide (i < k + 1)).length = (l.filter fun i => decide (i < k)).length + if k ∈ l then 1 else 0 := by
  induction l with
  | nil => simp
  | cons a l ih =>
    have hn' := List.nodup_cons.1 hn
    have := ih hn'.2
    by_cases e : k = a
    · subst e
      have hnot : ¬ k ∈ l := hn'.1
      simp only [List.filter_cons, Nat.lt_succ_self, decide_true, if_true, List.length_cons, Nat.lt_irrefl, decide_false, Bool.false_eq_true, if_false, List.mem_cons_self] at this ⊢
      rw [if_neg hnot] at this
      omega
    · have e1 : (k ∈ a :: l) = (k ∈ l) := by simp [e]
      by_cases h : a < k
      · simp only [List.filter_cons, e1, show a < k + 1 from by omega, h, decide_true, if_true, List.length_cons] at this ⊢
        omega
      · simp only [List.filter_cons, e1, show ¬ a < k + 1 from by omega, h, decide_false, Bool.false_eq_true, if_false] at this ⊢
        exact this
theorem Mk.skip (hp : PermF n f) (h : Mk f n k S cnt) (hk : k < n) (hs : S k = true) : Mk f n (k + 1) S cnt := by
  obtain ⟨m, hm, hr⟩ := (h.seen k hk).1 hs
  refine ⟨fun j hj => (h.seen j hj).trans ⟨fun ⟨m', h1, h2⟩ => ⟨m', by omega, h2⟩, fun ⟨m', h1, h2⟩ => ?_⟩, ?_⟩
  · by_cases e : m' = k
    · subst e; exact ⟨m, hm, hr.trans h2⟩
    · exact ⟨m', by omega, h2⟩
  · rw [filt_succ _ _ heads_nodup, if_neg (fun hh => ((mem_heads hp).1 hh).2 m hm hr)]
    exact h.cnt
/-- the marks inside the inner loop, after t steps -/
structure Mi (f : Nat → Nat) (n k t : Nat) (S T : Nat → Bool) : Prop where
  seen : ∀ j, j < n → (T j = true ↔ S j = true ∨ ∃ s, s < t ∧ itr f s k = j)
  far : ∀ s, 0 < s → s < t → itr f s k ≠ k
theorem Mi.start : Mi f n k 0 S S := ⟨fun j _ => by simp, fun s h1 h2 => by omega⟩
theorem Mi.step {t : Nat} {T : Nat → Bool} (hp : PermF n f) (hk : k < n) (h : Mi f n k t S T) (hu : T (itr f t k) = false) : Mi f n k (t + 1) S (mark T (itr f t k)) ∧ t + 1 ≤ n := by
  have hnot : ∀ s, s < t → itr f s k ≠ itr f t k := fun s hs e => by
    have := (h.seen _ (hp.itr_lt hk t)).2 (.inr ⟨s, hs, e⟩)
    rw [hu] at this
    cases this
  have hfar : ∀ s, 0 < s → s < t + 1 → itr f s k ≠ k := fun s h1 h2 e => by
    by_cases e' : s = t
    · subst e'; exact hnot 0 h1 e.symm
    · exact h.far s h1 (by omega) e
  refine ⟨⟨fun j hj => ?_, hfar⟩, hp.apart hk hfar⟩
  unfold mark
  by_cases e : j = itr f t k
  · rw [if_pos e]
    exact ⟨fun _ => .inr ⟨t, by omega, e.symm⟩, fun _ => rfl⟩
  · rw [if_neg e, h.seen j hj]
    constructor
    · rintro (h1 | ⟨s, h1, h2⟩)
      · exact .inl h1
      · exact .inr ⟨s, by omega, h2⟩
    · rintro (h1 | ⟨s, h1, h2⟩)
      · exact .inl h1
      · by_cases e' : s = t
        · subst e'; exact absurd h2.symm e
        · exact .inr ⟨s, by omega, h2⟩
theorem Mi.done {t : Nat} {T : Nat → Bool} (hp : PermF n f) (hk : k < n) (hm : Mk f n k S cnt) (hs : S k = false) (h : Mi f n k t S T) (hu : T (itr f t k) = true) : Mk f n (k + 1) T (cnt + 1) := by
  have hno : ∀ m, m < k → ¬ Rl f m k := fun m h1 h2 => by
    have := (hm.seen k hk).2 ⟨m, h1, h2⟩
    rw [hs] at this
    cases this
  have hret : ∃ s, s < t ∧ itr f s k = itr f t k := by
    rcases (h.seen _ (hp.itr_lt hk t)).1 hu with h1 | h1
    · exfalso
      obtain ⟨m, h2, h3⟩ := (hm.seen _ (hp.itr_lt hk t)).1 h1
      exact hno m h2 (h3.trans (hp.symm hk ⟨t, rfl⟩))
    · exact h1
  obtain ⟨s, hst, e⟩ := hret
  have hper : itr f (t - s) k = k := hp.itr_inj (hp.itr_lt hk _) hk s (by rw [← itr_add, show s + (t - s) = t from by omega]; exact e.symm)
  have hall : ∀ q, ∃ s', s' < t ∧ itr f s' k = itr f q k := by
    intro q
    induction q using Nat.strongRecOn with
    | _ q ih =>
      by_cases hq : q < t
      · exact ⟨q, hq, rfl⟩
      · obtain ⟨s', h1, h2⟩ := ih (q - (t - s)) (by omega)
        refine ⟨s', h1, h2.trans ?_⟩
        rw [show itr f q k = itr f (q - (t - s) + (t - s)) k from by congr 1; omega, itr_add, hper]
  refine ⟨fun j hj => (h.seen j hj).trans ?_, ?_⟩
  · rw [hm.seen j hj]
    constructor
    · rintro (⟨m, h1, h2⟩ | ⟨s', _, h2⟩)
      · exact ⟨m, by omega, h2⟩
      · exact ⟨k, by omega, s', h2⟩
    · rintro ⟨m, h1, h2⟩
      by_cases e' : m = k
      · subst e'
        obtain ⟨q, rfl⟩ := h2
        exact .inr (hall q)
      · exact .inl ⟨m, by omega, h2⟩
  · rw [filt_succ _ _ heads_nodup, if_pos ((mem_heads hp).2 ⟨hk, fun m h1 h2 => hno m h1 h2⟩), ← hm.cnt]
end
theorem cls_le_n (f : Nat → Nat) (n : Nat) : cls f n ≤ n := by
  unfold cls heads
  exact Nat.le_trans (List.length_filter_le _ _) (by simp)
theorem Mk.cnt_le {f : Nat → Nat} {n k cnt : Nat} {S : Nat → Bool} (h : Mk f n k S cnt) : cnt ≤ n := by
  rw [h.cnt]
  exact Nat.le_trans (List.length_filter_le _ _) (cls_le_n f n)
end Go.Proofs.YteliflcbegcdlaaGreatDoor
