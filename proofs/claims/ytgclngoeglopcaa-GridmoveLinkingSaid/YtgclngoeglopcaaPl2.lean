/- Plain facts: lists that are permutations; where relocate lays what. -/
import Derived.Test.YtgclngoeglopcaaAppR
namespace Go.Proofs.Ytgclngoeglopcaa
open Go.RowKit

/-- each number from 0 on below the length, once -/
def Pm (l : List Int) : Prop := Rows l.length l ∧ l.Nodup

theorem permFrom_iff (n : Nat) : ∀ (l s : List Int), permFrom n s l = true ↔ (Rows n l ∧ (∀ x ∈ l, x ∉ s) ∧ l.Nodup) := by
  intro l
  induction l with
  | nil => intro s; simp [permFrom, Rows]
  | cons y ys ih =>
    intro s
    simp only [permFrom, Bool.and_eq_true, decide_eq_true_eq, Bool.not_eq_true', ih]
    constructor
    · rintro ⟨⟨⟨h1, h2⟩, h3⟩, h4, h5, h6⟩
      refine ⟨fun x hx => ?_, fun x hx => ?_, List.nodup_cons.2 ⟨fun hy => ?_, h6⟩⟩
      · rcases List.mem_cons.1 hx with rfl | hx
        · exact ⟨h1, h2⟩
        · exact h4 x hx
      · rcases List.mem_cons.1 hx with rfl | hx
        · simpa using h3
        · intro hs; exact h5 x hx (List.mem_append.2 (.inl hs))
      · exact h5 y hy (by simp)
    · rintro ⟨h1, h2, h3⟩
      obtain ⟨h4, h5⟩ := List.nodup_cons.1 h3
      refine ⟨⟨h1 y (by simp), by simpa using h2 y (by simp)⟩, fun x hx => h1 x (by simp [hx]), fun x hx hs => ?_, h5⟩
      rcases List.mem_append.1 hs with hs | hs
      · exact h2 x (by simp [hx]) hs
      · rw [List.mem_singleton.1 hs] at hx; exact h4 hx
theorem permB_iff (l : List Int) : permB l = true ↔ Pm l := by
  unfold permB Pm
  rw [permFrom_iff]
  simp

theorem neqB_iff : ∀ (X O : List Int), X.length = O.length → (neqB X O = true ↔ ∀ k (h : k < X.length) (h' : k < O.length), X[k] ≠ O[k]) := by
  intro X
  induction X with
  | nil => intro O h; simp [neqB]
  | cons x xs ih =>
    intro O h
    cases O with
    | nil => simp at h
    | cons o os =>
      have ih' := ih os (by simpa using h)
      simp only [neqB, List.zip_cons_cons, List.all_cons, Bool.and_eq_true] at ih' ⊢
      rw [ih']
      constructor
      · rintro ⟨h1, h2⟩ k hk hk'
        cases k with
        | zero => simpa using h1
        | succ k => simpa using h2 k (by simpa using hk) (by simpa using hk')
      · intro hh
        exact ⟨bne_iff_ne.2 (show x ≠ o from hh 0 (by simp) (by simp)), fun k hk hk' => (show xs[k] ≠ os[k] from hh (k + 1) (by simpa using hk) (by simpa using hk'))⟩

/-- a valid grid -/
structure Vd (X O : List Int) : Prop where
  two : 2 ≤ X.length
  most : X.length ≤ 40
  len : X.length = O.length
  pX : Pm X
  pO : Pm O
  ne : ∀ k (h : k < X.length) (h' : k < O.length), X[k] ≠ O[k]
theorem validB_iff (X O : List Int) : validB X O = true ↔ Vd X O := by
  simp only [validB, Bool.and_eq_true, decide_eq_true_eq, permB_iff]
  constructor
  · rintro ⟨⟨⟨⟨⟨h1, h2⟩, h3⟩, h4⟩, h5⟩, h6⟩
    exact ⟨h1, h2, h3.symm, h5, h6, (neqB_iff X O h3.symm).1 h4⟩
  · rintro ⟨h1, h2, h3, h4, h5, h6⟩
    exact ⟨⟨⟨⟨⟨h1, h2⟩, h3.symm⟩, (neqB_iff X O h3).2 h6⟩, h4⟩, h5⟩

theorem Pm.inj {l : List Int} (h : Pm l) {i j : Nat} (hi : i < l.length) (hj : j < l.length) (e : l[i] = l[j]) : i = j := (List.getElem_inj h.2).1 e
theorem Pm.get {l : List Int} (h : Pm l) {i : Nat} (hi : i < l.length) : 0 ≤ l[i] ∧ l[i] < l.length := h.1.get hi
/-- every row occurs -/
theorem Pm.surj {l : List Int} (h : Pm l) {j : Nat} (hj : j < l.length) : ∃ k, ∃ hk : k < l.length, l[k] = (j : Int) := by
  have hm : (j : Int) ∈ l := by
    apply Classical.byContradiction
    intro hn
    have h1 : ((j : Int) :: l).Nodup := List.nodup_cons.2 ⟨hn, h.2⟩
    have h2 : ((j : Int) :: l) ⊆ (List.range l.length).map (fun i : Nat => (i : Int)) := by
      intro x hx
      rcases List.mem_cons.1 hx with rfl | hx
      · exact List.mem_map.2 ⟨j, List.mem_range.2 hj, rfl⟩
      · obtain ⟨h3, h4⟩ := h.1 x hx
        exact List.mem_map.2 ⟨x.toNat, List.mem_range.2 (by omega), by omega⟩
    have h3 := h1.length_le_of_subset h2
    simp at h3
    omega
  obtain ⟨k, hk, e⟩ := List.mem_iff_getElem.1 hm
  exact ⟨k, hk, e⟩
theorem Pm.mk_inj {l : List Int} (h : Rows l.length l) (hi : ∀ i j (hi : i < l.length) (hj : j < l.length), l[i] = l[j] → i = j) : Pm l := by
  refine ⟨h, ?_⟩
  rw [List.nodup_iff_pairwise_ne, List.pairwise_iff_getElem]
  intro i j hi' hj' hlt e
  have := hi i j hi' hj' e
  omega

section
variable {mv : Int → Int → Bool → Int × Int} {b : Bool}
theorem relStep_other {i : Nat} {x : Int} {acc : List Int} {j : Nat} (h : (mv i x b).1 ≠ (j : Int)) : (relStep mv b i x acc)[j]? = acc[j]? := by
  unfold relStep
  split
  · rw [List.getElem?_set_ne (by omega)]
  · rfl
theorem relTo_other (xs : List Int) : ∀ (i : Nat) (acc : List Int) (j : Nat), (∀ k (h : k < xs.length), (mv (i + k : Nat) xs[k] b).1 ≠ (j : Int)) → (relTo mv b i xs acc)[j]? = acc[j]? := by
  induction xs with
  | nil => intro i acc j _; rfl
  | cons x xs ih =>
    intro i acc j h
    rw [relTo, ih (i + 1) _ j (fun k hk => by have := h (k + 1) (by simpa using hk); rw [show i + 1 + k = i + (k + 1) from by omega]; simpa using this)]
    exact relStep_other (by have := h 0 (by simp); simpa using this)
theorem relTo_get (xs : List Int) : ∀ (i : Nat) (acc : List Int) (j k : Nat) (hk : k < xs.length), j < acc.length → (mv (i + k : Nat) xs[k] b).1 = (j : Int) →
    (∀ k' (h : k' < xs.length), k' ≠ k → (mv (i + k' : Nat) xs[k'] b).1 ≠ (j : Int)) → (relTo mv b i xs acc)[j]? = some (mv (i + k : Nat) xs[k] b).2 := by
  induction xs with
  | nil => intro i acc j k hk; simp at hk
  | cons x xs ih =>
    intro i acc j k hk hj he hne
    rw [relTo]
    cases k with
    | zero =>
      rw [relTo_other xs (i + 1) _ j (fun k hk => by have := hne (k + 1) (by simpa using hk) (by omega); rw [show i + 1 + k = i + (k + 1) from by omega]; simpa using this)]
      simp only [Nat.add_zero, List.getElem_cons_zero] at he ⊢
      unfold relStep
      rw [if_pos (by omega), he]
      simp [hj]
    | succ k =>
      have := ih (i + 1) (relStep mv b i x acc) j k (by simpa using hk) (by rw [relStep_length]; exact hj) (by rw [show i + 1 + k = i + (k + 1) from by omega]; simpa using he)
        (fun k' h hk' => by have := hne (k' + 1) (by simpa using h) (by omega); rw [show i + 1 + k' = i + (k' + 1) from by omega]; simpa using this)
      rw [this, show i + 1 + k = i + (k + 1) from by omega]
      simp
/-- what stands at the place j: the mark of the one column that is led there -/
theorem reloc_get {xs : List Int} {n j k : Nat} (hk : k < xs.length) (hj : j < n) (he : (mv k xs[k] b).1 = (j : Int))
    (hne : ∀ k' (h : k' < xs.length), k' ≠ k → (mv k' xs[k'] b).1 ≠ (j : Int)) : (reloc mv b n xs)[j]? = some (mv k xs[k] b).2 := by
  have := relTo_get (mv := mv) (b := b) xs 0 (List.replicate n 0) j k hk (by simpa using hj) (by simpa using he) (fun k' h hk' => by simpa using hne k' h hk')
  simpa [reloc] using this
end

/-- the transposed list leads back -/
theorem tr_get {l : List Int} (h : Pm l) {k : Nat} (hk : k < l.length) : (tr l)[l[k].toNat]? = some (k : Int) := by
  have hg := h.get hk
  refine (reloc_get (mv := mvT) hk (by omega) (by simp only [mvT]; omega) (fun k' h' hne => ?_)).trans rfl
  simp only [mvT]
  intro e
  exact hne (h.inj h' hk (by omega))
theorem tr_get' {l : List Int} (h : Pm l) {j : Nat} (hj : j < l.length) : ∃ k, ∃ hk : k < l.length, l[k] = (j : Int) ∧ (tr l)[j]? = some (k : Int) := by
  obtain ⟨k, hk, e⟩ := h.surj hj
  refine ⟨k, hk, e, ?_⟩
  have := tr_get h hk
  rw [e] at this
  exact this
theorem tr_pm {l : List Int} (h : Pm l) : Pm (tr l) := by
  refine Pm.mk_inj ?_ (fun i j hi hj e => ?_)
  · rw [tr_length]
    intro x hx
    obtain ⟨j, hj, rfl⟩ := List.mem_iff_getElem.1 hx
    rw [tr_length] at hj
    obtain ⟨k, hk, _, e⟩ := tr_get' h hj
    have := (List.getElem?_eq_some_iff.1 e).2
    omega
  · rw [tr_length] at hi hj
    obtain ⟨k, hk, e1, e2⟩ := tr_get' h hi
    obtain ⟨k', hk', e3, e4⟩ := tr_get' h hj
    have e5 := (List.getElem?_eq_some_iff.1 e2).2
    have e6 := (List.getElem?_eq_some_iff.1 e4).2
    have : k = k' := by omega
    subst this
    omega
theorem tr_tr {l : List Int} (h : Pm l) : tr (tr l) = l := by
  apply List.ext_getElem?
  intro k
  by_cases hk : k < l.length
  · have hg := h.get hk
    have e1 := tr_get h hk
    have hlt : l[k].toNat < (tr l).length := by rw [tr_length]; omega
    have e2 := tr_get (tr_pm h) hlt
    have e3 := (List.getElem?_eq_some_iff.1 e1).2
    rw [e3] at e2
    simp only [Int.toNat_natCast] at e2
    rw [e2, List.getElem?_eq_getElem hk]
    congr 1
    omega
  · rw [List.getElem?_eq_none (by rw [tr_length, tr_length]; omega), List.getElem?_eq_none (by omega)]
theorem tr_vd {X O : List Int} (h : Vd X O) : Vd (tr X) (tr O) := by
  refine ⟨by rw [tr_length]; exact h.two, by rw [tr_length]; exact h.most, by rw [tr_length, tr_length]; exact h.len, tr_pm h.pX, tr_pm h.pO, fun j hj hj' e => ?_⟩
  rw [tr_length] at hj hj'
  obtain ⟨k, hk, e1, e2⟩ := tr_get' h.pX hj
  obtain ⟨k', hk', e3, e4⟩ := tr_get' h.pO hj'
  have e5 := (List.getElem?_eq_some_iff.1 e2).2
  have e6 := (List.getElem?_eq_some_iff.1 e4).2
  have : k = k' := by omega
  subst this
  exact h.ne k hk hk' (by omega)
end Go.Proofs.Ytgclngoeglopcaa
