/- spherical, plain: the excess of each component, the marks of the faces. -/
import Derived.Test.YtlbihllmpbhhcaaDoorZBfw
namespace Go.Proofs.YtlbihllmpbhhcaaDoor
set_option linter.unusedVariables false
open Go.RowKit

def crI (pl : List Int) (q c : Nat) : Nat := (List.range c).countP fun b => decide (gi pl b = (q : Int))
def fcI (pl : List Int) (q : Nat) (hs : List Nat) : Nat := hs.countP fun h => decide (gi pl (h / 4) = (q : Int))
/-- the excess of each component when c crossings and the faces hs have been counted -/
def exL (pl : List Int) (p c : Nat) (hs : List Nat) : List Int := (List.range p).map fun q => (fcI pl q hs : Int) - (crI pl q c : Int)
theorem exL_length (pl : List Int) (p c : Nat) (hs : List Nat) : (exL pl p c hs).length = p := by simp [exL]
theorem gi_exL {pl : List Int} {p c : Nat} {hs : List Nat} {q : Nat} (hq : q < p) : gi (exL pl p c hs) q = (fcI pl q hs : Int) - (crI pl q c : Int) := by
  unfold gi exL; rw [List.getElem?_map, List.getElem?_range hq]; rfl
theorem gi_ext {a b : List Int} (hl : a.length = b.length) (h : ∀ i, i < a.length → gi a i = gi b i) : a = b := by
  apply List.ext_getElem hl
  intro i h1 h2
  have := h i h1
  unfold gi at this
  rw [List.getElem?_eq_getElem h1, List.getElem?_eq_getElem h2] at this
  exact this
theorem exL_nil (pl : List Int) (p : Nat) : ic (exL pl p 0 []) = List.replicate p (.int .i64 0) := by
  have : exL pl p 0 [] = List.replicate p 0 := by
    apply gi_ext
    · simp [exL]
    · intro i hi
      rw [exL_length] at hi
      rw [gi_exL hi]
      simp [fcI, crI, gi, hi]
  rw [this]; simp [ic]
theorem crI_succ (pl : List Int) (q c : Nat) : crI pl q (c + 1) = crI pl q c + if gi pl c = (q : Int) then 1 else 0 := by
  unfold crI; rw [List.range_succ, List.countP_append, List.countP_singleton]; simp
theorem fcI_snoc (pl : List Int) (q : Nat) (hs : List Nat) (h : Nat) : fcI pl q (hs ++ [h]) = fcI pl q hs + if gi pl (h / 4) = (q : Int) then 1 else 0 := by
  unfold fcI; rw [List.countP_append, List.countP_singleton]; simp
theorem exL_cross {pl : List Int} {p c t : Nat} (ht : t < p) (hg : gi pl c = (t : Int)) : (exL pl p c []).set t (gi (exL pl p c []) t - 1) = exL pl p (c + 1) [] := by
  apply gi_ext
  · simp [exL]
  · intro i hi
    rw [List.length_set, exL_length] at hi
    rw [gi_set _ _ _ _ (by rw [exL_length]; exact ht), gi_exL hi, gi_exL ht, gi_exL hi, crI_succ, hg]
    by_cases e : i = t
    · subst e; rw [if_pos rfl, if_pos rfl]; omega
    · rw [if_neg e, if_neg (by omega)]; omega
theorem exL_face {pl : List Int} {p c t h : Nat} {hs : List Nat} (ht : t < p) (hg : gi pl (h / 4) = (t : Int)) : (exL pl p c hs).set t (gi (exL pl p c hs) t + 1) = exL pl p c (hs ++ [h]) := by
  apply gi_ext
  · simp [exL]
  · intro i hi
    rw [List.length_set, exL_length] at hi
    rw [gi_set _ _ _ _ (by rw [exL_length]; exact ht), gi_exL hi, gi_exL ht, gi_exL hi, fcI_snoc, hg]
    by_cases e : i = t
    · subst e; rw [if_pos rfl, if_pos rfl]; omega
    · rw [if_neg e, if_neg (by omega)]; omega
theorem exL_bd (pl : List Int) (p c : Nat) (hs : List Nat) (q : Nat) : -(c : Int) ≤ gi (exL pl p c hs) q ∧ gi (exL pl p c hs) q ≤ (hs.length : Int) := by
  rcases Nat.lt_or_ge q p with h | h
  · rw [gi_exL h]
    have h1 : crI pl q c ≤ c := by have := List.countP_le_length (p := fun b => decide (gi pl b = (q : Int))) (l := List.range c); simpa [crI] using this
    have h2 : fcI pl q hs ≤ hs.length := List.countP_le_length
    omega
  · have : gi (exL pl p c hs) q = 0 := by unfold gi; rw [List.getElem?_eq_none (by rw [exL_length]; exact h)]; rfl
    omega

/- marks -/
def marks (n : Nat) (S : Nat → Bool) : List Value := (List.range n).map fun j => Value.bool (S j)
theorem marks_get {n : Nat} {S : Nat → Bool} {i : Nat} (h : i < n) : (marks n S)[i]? = some (.bool (S i)) := by simp [marks, h]
theorem marks_nil (n : Nat) : marks n (fun _ => false) = List.replicate n (.bool false) := by
  apply List.ext_getElem?
  intro i
  by_cases h : i < n <;> simp [marks, h]
def mark (S : Nat → Bool) (i : Nat) : Nat → Bool := fun j => if j = i then true else S j
theorem marks_set {n : Nat} {S : Nat → Bool} {i : Nat} : (marks n S).set i (.bool true) = marks n (mark S i) := by
  apply List.ext_getElem?
  intro j
  rw [List.getElem?_set]
  by_cases hj : j < n
  · by_cases e : i = j
    · subst e; simp [marks, hj, mark]
    · simp [marks, hj, e, mark, Ne.symm e]
  · simp [marks, hj]; omega
/-- what is marked when the numbers below k have been looked at -/
def Mk (f : Nat → Nat) (n k : Nat) (S : Nat → Bool) : Prop := ∀ j, j < n → (S j = true ↔ ∃ m, m < k ∧ Rl f m j)
section
variable {n k : Nat} {f : Nat → Nat} {S : Nat → Bool}
theorem Mk.start : Mk f n 0 (fun _ => false) := fun j _ => by simp
theorem Mk.isH_old (hp : PermF n f) (h : Mk f n k S) (hk : k < n) (hs : S k = true) : isH f n k = false := by
  obtain ⟨m, hm, hr⟩ := (h k hk).1 hs
  rw [Bool.eq_false_iff]
  intro e
  have := List.all_eq_true.1 e m (List.mem_range.2 hm)
  rw [(rB_iff hp (by omega)).2 hr] at this
  cases this
theorem Mk.isH_new (hp : PermF n f) (h : Mk f n k S) (hk : k < n) (hs : S k = false) : isH f n k = true := by
  refine List.all_eq_true.2 fun m hm => ?_
  have hm' := List.mem_range.1 hm
  cases hr : rB f n m k with
  | false => rfl
  | true =>
    have := (h k hk).2 ⟨m, hm', (rB_iff hp (by omega)).1 hr⟩
    rw [hs] at this; cases this
theorem Mk.skip (h : Mk f n k S) (hk : k < n) (hs : S k = true) : Mk f n (k + 1) S := by
  obtain ⟨m, hm, hr⟩ := (h k hk).1 hs
  refine fun j hj => (h j hj).trans ⟨fun ⟨m', h1, h2⟩ => ⟨m', by omega, h2⟩, fun ⟨m', h1, h2⟩ => ?_⟩
  by_cases e : m' = k
  · subst e; exact ⟨m, hm, hr.trans h2⟩
  · exact ⟨m', by omega, h2⟩
/-- the marks inside the inner loop, after t steps -/
structure Mi (f : Nat → Nat) (n k t : Nat) (S T : Nat → Bool) : Prop where
  seen : ∀ j, j < n → (T j = true ↔ S j = true ∨ ∃ s, s < t ∧ itr f s k = j)
  far : ∀ s, 0 < s → s < t → itr f s k ≠ k
theorem Mi.start : Mi f n k 0 S S := ⟨fun j _ => by simp, fun s h1 h2 => by omega⟩
theorem Mi.step {t : Nat} {T : Nat → Bool} (hp : PermF n f) (hk : k < n) (h : Mi f n k t S T) (hu : T (itr f t k) = false) : Mi f n k (t + 1) S (mark T (itr f t k)) ∧ t + 1 ≤ n := by
  have hnot : ∀ s, s < t → itr f s k ≠ itr f t k := fun s hs e => by
    have := (h.seen _ (hp.itr_lt hk t)).2 (.inr ⟨s, hs, e⟩)
    rw [hu] at this
    cases this
  have hfar : ∀ s, 0 < s → s < t + 1 → itr f s k ≠ k := fun s h1 h2 e => by
    by_cases e' : s = t
    · subst e'; exact hnot 0 h1 e.symm
    · exact h.far s h1 (by omega) e
  refine ⟨⟨fun j hj => ?_, hfar⟩, hp.apart hk hfar⟩
  unfold mark
  by_cases e : j = itr f t k
  · rw [if_pos e]
    exact ⟨fun _ => .inr ⟨t, by omega, e.symm⟩, fun _ => rfl⟩
  · rw [if_neg e, h.seen j hj]
    constructor
    · rintro (h1 | ⟨s, h1, h2⟩)
      · exact .inl h1
      · exact .inr ⟨s, by omega, h2⟩
    · rintro (h1 | ⟨s, h1, h2⟩)
      · exact .inl h1
      · by_cases e' : s = t
        · subst e'; exact absurd h2.symm e
        · exact .inr ⟨s, by omega, h2⟩
theorem Mi.done {t : Nat} {T : Nat → Bool} (hp : PermF n f) (hk : k < n) (hm : Mk f n k S) (hs : S k = false) (h : Mi f n k t S T) (hu : T (itr f t k) = true) : Mk f n (k + 1) T := by
  have hno : ∀ m, m < k → ¬ Rl f m k := fun m h1 h2 => by
    have := (hm k hk).2 ⟨m, h1, h2⟩
    rw [hs] at this
    cases this
  have hret : ∃ s, s < t ∧ itr f s k = itr f t k := by
    rcases (h.seen _ (hp.itr_lt hk t)).1 hu with h1 | h1
    · exfalso
      obtain ⟨m, h2, h3⟩ := (hm _ (hp.itr_lt hk t)).1 h1
      exact hno m h2 (h3.trans (hp.symm hk ⟨t, rfl⟩))
    · exact h1
  obtain ⟨s, hst, e⟩ := hret
  have hper : itr f (t - s) k = k := hp.itr_inj (hp.itr_lt hk _) hk s (by rw [← itr_add, show s + (t - s) = t from by omega]; exact e.symm)
  have hall : ∀ q, ∃ s', s' < t ∧ itr f s' k = itr f q k := by
    intro q
    induction q using Nat.strongRecOn with
    | _ q ih =>
      by_cases hq : q < t
      · exact ⟨q, hq, rfl⟩
      · obtain ⟨s', h1, h2⟩ := ih (q - (t - s)) (by omega)
        refine ⟨s', h1, h2.trans ?_⟩
        rw [show itr f q k = itr f (q - (t - s) + (t - s)) k from by congr 1; omega, itr_add, hper]
  refine fun j hj => (h.seen j hj).trans ?_
  rw [hm j hj]
  constructor
  · rintro (⟨m, h1, h2⟩ | ⟨s', _, h2⟩)
    · exact ⟨m, by omega, h2⟩
    · exact ⟨k, by omega, s', h2⟩
  · rintro ⟨m, h1, h2⟩
    by_cases e' : m = k
    · subst e'
      obtain ⟨q, rfl⟩ := h2
      exact .inr (hall q)
    · exact .inl ⟨m, by omega, h2⟩
end

/- the two ways of labelling -/
section
variable {S M : List Int} {L : Int} (k : Ok S M L) {pl : List Int} {p : Nat}
include k
theorem part_conn (h : PartO M S.length pl p S.length) {a b : Nat} (ha : a < S.length) (hc : Conn (Ed M) a b) : gi pl b = gi pl a := by
  have := Conn.closed (P := fun x => x < S.length ∧ gi pl x = gi pl a) (fun u v e ⟨h1, h2⟩ => ⟨(e.lt k.rg).2, by rw [h.clo u v e (h.low u h1), h2]⟩) hc ⟨ha, rfl⟩
  exact this.2
theorem lab_lt {a b : Nat} (ha : a < S.length) (hc : Conn (Ed M) a b) : b < S.length :=
  Conn.closed (P := fun x => x < S.length) (fun _ _ e _ => (e.lt k.rg).2) hc ha
theorem lab_eq {a b : Nat} (ha : a < S.length) (hc : Conn (Ed M) a b) : gn (labK M S.length S.length) a = gn (labK M S.length S.length) b := by
  have hb := lab_lt k ha hc
  have ca := labK_conn k.rg S.length a ha
  have cb := labK_conn k.rg S.length b hb
  have sy := fun {x y : Nat} (h : Conn (Ed M) x y) => h.symm (fun _ _ e => e.symm)
  apply Nat.le_antisymm
  · exact labK_least k.rg (lab_lt k hb cb) ((sy cb).trans (sy hc))
  · exact labK_least k.rg (lab_lt k ha ca) ((sy ca).trans hc)
theorem lab_self {a : Nat} (ha : a < S.length) : gn (labK M S.length S.length) (gn (labK M S.length S.length) a) = gn (labK M S.length S.length) a :=
  (lab_eq k ha (labK_conn k.rg S.length a ha)).symm
theorem lab_iff (h : PartO M S.length pl p S.length) {a b : Nat} (ha : a < S.length) (hb : b < S.length) : gn (labK M S.length S.length) a = gn (labK M S.length S.length) b ↔ gi pl a = gi pl b := by
  have sy := fun {x y : Nat} (h : Conn (Ed M) x y) => h.symm (fun _ _ e => e.symm)
  constructor
  · intro e
    have ca := labK_conn k.rg S.length a ha
    have cb := labK_conn k.rg S.length b hb
    rw [e] at ca
    exact (part_conn k h ha (ca.trans (sy cb))).symm
  · intro e
    have ra := h.low a ha
    have h2 : gi pl a < (p : Int) := by rcases h.rng a ha with q | q <;> omega
    obtain ⟨q, hq⟩ : ∃ q : Nat, gi pl a = (q : Int) := ⟨(gi pl a).toNat, by omega⟩
    obtain ⟨r, hr, h3, h4⟩ := h.root q (by omega)
    exact (lab_eq k hr (h4 a ha hq)).symm.trans (lab_eq k hr (h4 b hb (by omega)))
theorem sph_at (h : PartO M S.length pl p S.length) {c q : Nat} (hc : c < S.length) (hs : gn (labK M S.length S.length) c = c) (hq : gi pl c = (q : Int)) :
    spB M (labK M S.length S.length) c = decide ((fcI pl q (hdU (phi M) M.length M.length) : Int) - (crI pl q S.length : Int) = 2) := by
  have e1 : crN (labK M S.length S.length) c S.length = crI pl q S.length := by
    unfold crN crI
    apply List.countP_congr
    intro b hb
    have hb' := List.mem_range.1 hb
    have := lab_iff k h hb' hc
    rw [hs, hq] at this
    simp [this]
  have e2 : fcN (labK M S.length S.length) c (hdU (phi M) M.length M.length) = fcI pl q (hdU (phi M) M.length M.length) := by
    unfold fcN fcI
    apply List.countP_congr
    intro x hx
    have hx' : x / 4 < S.length := by have := hdU_mem hx; have := k.m; omega
    have := lab_iff k h hx' hc
    rw [hs, hq] at this
    simp [this]
  unfold spB
  rw [labK_length, e1, e2, hs]
  rw [Bool.eq_iff_iff]
  simp
  omega
theorem sph_eq (h : PartO M S.length pl p S.length) : sphR M S.length = (exL pl p S.length (hdU (phi M) M.length M.length)).all fun x => decide (x = 2) := by
  rw [Bool.eq_iff_iff]
  unfold sphR
  rw [List.all_eq_true, List.all_eq_true]
  constructor
  · intro H x hx
    unfold exL at hx
    obtain ⟨q, hq, rfl⟩ := List.mem_map.1 hx
    obtain ⟨r, hr, h1, _⟩ := h.root q (List.mem_range.1 hq)
    have hc := lab_lt k hr (labK_conn k.rg S.length r hr)
    have hs := lab_self k hr
    have h2 : gi pl (gn (labK M S.length S.length) r) = (q : Int) := by rw [(lab_iff k h hc hr).1 hs, h1]
    rw [← sph_at k h hc hs h2]
    exact H _ (List.mem_range.2 hc)
  · intro H c hc
    have hc' := List.mem_range.1 hc
    by_cases hs : gn (labK M S.length S.length) c = c
    · have h0 := h.low c hc'
      have h2 : gi pl c < (p : Int) := by rcases h.rng c hc' with q | q <;> omega
      obtain ⟨q, hq⟩ : ∃ q : Nat, gi pl c = (q : Int) := ⟨(gi pl c).toNat, by omega⟩
      rw [sph_at k h hc' hs hq]
      exact H _ (List.mem_map.2 ⟨q, List.mem_range.2 (by omega), rfl⟩)
    · unfold spB; simp [hs]
theorem sph_no (h : PartO M S.length pl p S.length) {q : Nat} (hq : q < p) (hne : gi (exL pl p S.length (hdU (phi M) M.length M.length)) q ≠ 2) : sphR M S.length = false := by
  rw [sph_eq k h, Bool.eq_false_iff]
  intro e
  have := List.all_eq_true.1 e (gi (exL pl p S.length (hdU (phi M) M.length M.length)) q) (by rw [gi_exL hq]; exact List.mem_map.2 ⟨q, List.mem_range.2 hq, rfl⟩)
  simp at this
  exact hne this
theorem sph_yes (h : PartO M S.length pl p S.length) (H : ∀ q, q < p → gi (exL pl p S.length (hdU (phi M) M.length M.length)) q = 2) : sphR M S.length = true := by
  rw [sph_eq k h, List.all_eq_true]
  intro x hx
  obtain ⟨q, hq, rfl⟩ := List.mem_map.1 (show x ∈ (List.range p).map _ from hx)
  have := H q (List.mem_range.1 hq)
  rw [gi_exL (List.mem_range.1 hq)] at this
  simpa using this
end
end Go.Proofs.YtlbihllmpbhhcaaDoor
