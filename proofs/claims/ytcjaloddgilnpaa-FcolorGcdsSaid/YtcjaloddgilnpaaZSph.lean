/- spherical, plain: the excess of each component, the marks of the faces. -/
/- diagram.spherical: the walk. -/
import Derived.Test.YtcjaloddgilnpaaZBfw
namespace Go.Proofs.Ytcjaloddgilnpaa
set_option linter.unusedVariables false
open Go.RowKit

def crI (pl : List Int) (q c : Nat) : Nat := (List.range c).countP fun b => decide (gi pl b = (q : Int))
def fcI (pl : List Int) (q : Nat) (hs : List Nat) : Nat := hs.countP fun h => decide (gi pl (h / 4) = (q : Int))
/-- the excess of each component when c crossings and the faces hs have been counted -/
def exL (pl : List Int) (p c : Nat) (hs : List Nat) : List Int := (List.range p).map fun q => (fcI pl q hs : Int) - (crI pl q c : Int)
theorem exL_length (pl : List Int) (p c : Nat) (hs : List Nat) : (exL pl p c hs).length = p := by simp [exL]
theorem gi_exL {pl : List Int} {p c : Nat} {hs : List Nat} {q : Nat} (hq : q < p) : gi (exL pl p c hs) q = (fcI pl q hs : Int) - (crI pl q c : Int) := by
  unfold gi exL; rw [List.getElem?_map, List.getElem?_range hq]; rfl
theorem gi_ext {a b : List Int} (hl : a.length = b.length) (h : ∀ i, i < a.length → gi a i = gi b i) : a = b := by
  apply List.ext_getElem hl
  intro i h1 h2
  have := h i h1
  unfold gi at this
  rw [List.getElem?_eq_getElem h1, List.getElem?_eq_getElem h2] at this
  exact this
theorem exL_nil (pl : List Int) (p : Nat) : ic (exL pl p 0 []) = List.replicate p (.int .i64 0) := by
  have : exL pl p 0 [] = List.replicate p 0 := by
    apply gi_ext
    · simp [exL]
    · intro i hi
      rw [exL_length] at hi
      rw [gi_exL hi]
      simp [fcI, crI, gi, hi]
  rw [this]; simp [ic]
theorem crI_succ (pl : List Int) (q c : Nat) : crI pl q (c + 1) = crI pl q c + if gi pl c = (q : Int) then 1 else 0 := by
  unfold crI; rw [List.range_succ, List.countP_append, List.countP_singleton]; simp
theorem fcI_snoc (pl : List Int) (q : Nat) (hs : List Nat) (h : Nat) : fcI pl q (hs ++ [h]) = fcI pl q hs + if gi pl (h / 4) = (q : Int) then 1 else 0 := by
  unfold fcI; rw [List.countP_append, List.countP_singleton]; simp
theorem exL_cross {pl : List Int} {p c t : Nat} (ht : t < p) (hg : gi pl c = (t : Int)) : (exL pl p c []).set t (gi (exL pl p c []) t - 1) = exL pl p (c + 1) [] := by
  apply gi_ext
  · simp [exL]
  · intro i hi
    rw [List.length_set, exL_length] at hi
    rw [gi_set _ _ _ _ (by rw [exL_length]; exact ht), gi_exL hi, gi_exL ht, gi_exL hi, crI_succ, hg]
    by_cases e : i = t
    · subst e; rw [if_pos rfl, if_pos rfl]; omega
    · rw [if_neg e, if_neg (by omega)]; omega
theorem exL_face {pl : List Int} {p c t h : Nat} {hs : List Nat} (ht : t < p) (hg : gi pl (h / 4) = (t : Int)) : (exL pl p c hs).set t (gi (exL pl p c hs) t + 1) = exL pl p c (hs ++ [h]) := by
  apply gi_ext
  · simp [exL]
  · intro i hi
    rw [List.length_set, exL_length] at hi
    rw [gi_set _ _ _ _ (by rw [exL_length]; exact ht), gi_exL hi, gi_exL ht, gi_exL hi, fcI_snoc, hg]
    by_cases e : i = t
    · subst e; rw [if_pos rfl, if_pos rfl]; omega
    · rw [if_neg e, if_neg (by omega)]; omega
theorem exL_bd (pl : List Int) (p c : Nat) (hs : List Nat) (q : Nat) : -(c : Int) ≤ gi (exL pl p c hs) q ∧ gi (exL pl p c hs) q ≤ (hs.length : Int) := by
  rcases Nat.lt_or_ge q p with h | h
  · rw [gi_exL h]
    have h1 : crI pl q c ≤ c := by have := List.countP_le_length (p := fun b => decide (gi pl b = (q : Int))) (l := List.range c); simpa [crI] using this
    have h2 : fcI pl q hs ≤ hs.length := List.countP_le_length
    omega
  · have : gi (exL pl p c hs) q = 0 := by unfold gi; rw [List.getElem?_eq_none (by rw [exL_length]; exact h)]; rfl
    omega

/- marks -/
def marks (n : Nat) (S : Nat → Bool) : List Value := (List.range n).map fun j => Value.bool (S j)
theorem marks_get {n : Nat} {S : Nat → Bool} {i : Nat} (h : i < n) : (marks n S)[i]? = some (.bool (S i)) := by simp [marks, h]
theorem marks_nil (n : Nat) : marks n (fun _ => false) = List.replicate n (.bool false) := by
  apply List.ext_getElem?
  intro i
  by_cases h : i < n <;> simp [marks, h]
def mark (S : Nat → Bool) (i : Nat) : Nat → Bool := fun j => if j = i then true else S j
theorem marks_set {n : Nat} {S : Nat → Bool} {i : Nat} : (marks n S).set i (.bool true) = marks n (mark S i) := by
  apply List.ext_getElem?
  intro j
  rw [List.getElem?_set]
  by_cases hj : j < n
  · by_cases e : i = j
    · subst e; simp [marks, hj, mark]
    · simp [marks, hj, e, mark, Ne.symm e]
  · simp [marks, hj]; omega
/-- what is marked when the numbers below k have been looked at -/
def Mk (f : Nat → Nat) (n k : Nat) (S : Nat → Bool) : Prop := ∀ j, j < n → (S j = true ↔ ∃ m, m < k ∧ Rl f m j)
section
variable {n k : Nat} {f : Nat → Nat} {S : Nat → Bool}
theorem Mk.start : Mk f n 0 (fun _ => false) := fun j _ => by simp
theorem Mk.isH_old (hp : PermF n f) (h : Mk f n k S) (hk : k < n) (hs : S k = true) : isH f n k = false := by
  obtain ⟨m, hm, hr⟩ := (h k hk).1 hs
  rw [Bool.eq_false_iff]
  intro e
  have := List.all_eq_true.1 e m (List.mem_range.2 hm)
  rw [(rB_iff hp (by omega)).2 hr] at this
  cases this
theorem Mk.isH_new (hp : PermF n f) (h : Mk f n k S) (hk : k < n) (hs : S k = false) : isH f n k = true := by
  refine List.all_eq_true.2 fun m hm => ?_
  have hm' := List.mem_range.1 hm
  cases hr : rB f n m k with
  | false => rfl
  | true =>
    have := (h k hk).2 ⟨m, hm', (rB_iff hp (by omega)).1 hr⟩
    rw [hs] at this; cases this
theorem Mk.skip (h : Mk f n k S) (hk : k < n) (hs : S k = true) : Mk f n (k + 1) S := by
  obtain ⟨m, hm, hr⟩ := (h k hk).1 hs
  refine fun j hj => (h j hj).trans ⟨fun ⟨m', h1, h2⟩ => ⟨m', by omega, h2⟩, fun ⟨m', h1, h2⟩ => ?_⟩
  by_cases e : m' = k
  · subst e; exact ⟨m, hm, hr.trans h2⟩
  · exact ⟨m', by omega, h2⟩
/-- the marks inside the inner loop, after t steps -/
structure Mi (f : Nat → Nat) (n k t : Nat) (S T : Nat → Bool) : Prop where
  seen : ∀ j, j < n → (T j = true ↔ S j = true ∨ ∃ s, s < t ∧ itr f s k = j)
  far : ∀ s, 0 < s → s < t → itr f s k ≠ k
theorem Mi.start : Mi f n k 0 S S := ⟨fun j _ => by simp, fun s h1 h2 => by omega⟩
theorem Mi.step {t : Nat} {T : Nat → Bool} (hp : PermF n f) (hk : k < n) (h : Mi f n k t S T) (hu : T (itr f t k) = false) : Mi f n k (t + 1) S (mark T (itr f t k)) ∧ t + 1 ≤ n := by
  have hnot : ∀ s, s < t → itr f s k ≠ itr f t k := fun s hs e => by
    have := (h.seen _ (hp.itr_lt hk t)).2 (.inr ⟨s, hs, e⟩)
    rw [hu] at this
    cases this
  have hfar : ∀ s, 0 < s → s < t + 1 → itr f s k ≠ k := fun s h1 h2 e => by
    by_cases e' : s = t
    · subst e'; exact hnot 0 h1 e.symm
    · exact h.far s h1 (by omega) e
  refine ⟨⟨fun j hj => ?_, hfar⟩, hp.apart hk hfar⟩
  unfold mark
  by_cases e : j = itr f t k
  · rw [if_pos e]
    exact ⟨fun _ => .inr ⟨t, by omega, e.symm⟩, fun _ => rfl⟩
  · rw [if_neg e, h.seen j hj]
    constructor
    · rintro (h1 | ⟨s, h1, h2⟩)
      · exact .inl h1
      · exact .inr ⟨s, by omega, h2⟩
    · rintro (h1 | ⟨s, h1, h2⟩)
      · exact .inl h1
      · by_cases e' : s = t
        · subst e'; exact absurd h2.symm e
        · exact .inr ⟨s, by omega, h2⟩
theorem Mi.done {t : Nat} {T : Nat → Bool} (hp : PermF n f) (hk : k < n) (hm : Mk f n k S) (hs : S k = false) (h : Mi f n k t S T) (hu : T (itr f t k) = true) : Mk f n (k + 1) T := by
  have hno : ∀ m, m < k → ¬ Rl f m k := fun m h1 h2 => by
    have := (hm k hk).2 ⟨m, h1, h2⟩
    rw [hs] at this
    cases this
  have hret : ∃ s, s < t ∧ itr f s k = itr f t k := by
    rcases (h.seen _ (hp.itr_lt hk t)).1 hu with h1 | h1
    · exfalso
      obtain ⟨m, h2, h3⟩ := (hm _ (hp.itr_lt hk t)).1 h1
      exact hno m h2 (h3.trans (hp.symm hk ⟨t, rfl⟩))
    · exact h1
  obtain ⟨s, hst, e⟩ := hret
  have hper : itr f (t - s) k = k := hp.itr_inj (hp.itr_lt hk _) hk s (by rw [← itr_add, show s + (t - s) = t from by omega]; exact e.symm)
  have hall : ∀ q, ∃ s', s' < t ∧ itr f s' k = itr f q k := by
    intro q
    induction q using Nat.strongRecOn with
    | _ q ih =>
      by_cases hq : q < t
      · exact ⟨q, hq, rfl⟩
      · obtain ⟨s', h1, h2⟩ := ih (q - (t - s)) (by omega)
        refine ⟨s', h1, h2.trans ?_⟩
        rw [show itr f q k = itr f (q - (t - s) + (t - s)) k from by congr 1; omega, itr_add, hper]
  refine fun j hj => (h.seen j hj).trans ?_
  rw [hm j hj]
  constructor
  · rintro (⟨m, h1, h2⟩ | ⟨s', _, h2⟩)
    · exact ⟨m, by omega, h2⟩
    · exact ⟨k, by omega, s', h2⟩
  · rintro ⟨m, h1, h2⟩
    by_cases e' : m = k
    · subst e'
      obtain ⟨q, rfl⟩ := h2
      exact .inr (hall q)
    · exact .inl ⟨m, by omega, h2⟩
end

/- the two ways of labelling -/
section
variable {S M : List Int} {L : Int} (k : Ok S M L) {pl : List Int} {p : Nat}
include k
theorem part_conn (h : PartO M S.length pl p S.length) {a b : Nat} (ha : a < S.length) (hc : Conn (Ed M) a b) : gi pl b = gi pl a := by
  have := Conn.closed (P := fun x => x < S.length ∧ gi pl x = gi pl a) (fun u v e ⟨h1, h2⟩ => ⟨(e.lt k.rg).2, by rw [h.clo u v e (h.low u h1), h2]⟩) hc ⟨ha, rfl⟩
  exact this.2
theorem lab_lt {a b : Nat} (ha : a < S.length) (hc : Conn (Ed M) a b) : b < S.length :=
  Conn.closed (P := fun x => x < S.length) (fun _ _ e _ => (e.lt k.rg).2) hc ha
theorem lab_eq {a b : Nat} (ha : a < S.length) (hc : Conn (Ed M) a b) : gn (labK M S.length S.length) a = gn (labK M S.length S.length) b := by
  have hb := lab_lt k ha hc
  have ca := labK_conn k.rg S.length a ha
  have cb := labK_conn k.rg S.length b hb
  have sy := fun {x y : Nat} (h : Conn (Ed M) x y) => h.symm (fun _ _ e => e.symm)
  apply Nat.le_antisymm
  · exact labK_least k.rg (lab_lt k hb cb) ((sy cb).trans (sy hc))
  · exact labK_least k.rg (lab_lt k ha ca) ((sy ca).trans hc)
theorem lab_self {a : Nat} (ha : a < S.length) : gn (labK M S.length S.length) (gn (labK M S.length S.length) a) = gn (labK M S.length S.length) a :=
  (lab_eq k ha (labK_conn k.rg S.length a ha)).symm
theorem lab_iff (h : PartO M S.length pl p S.length) {a b : Nat} (ha : a < S.length) (hb : b < S.length) : gn (labK M S.length S.length) a = gn (labK M S.length S.length) b ↔ gi pl a = gi pl b := by
  have sy := fun {x y : Nat} (h : Conn (Ed M) x y) => h.symm (fun _ _ e => e.symm)
  constructor
  · intro e
    have ca := labK_conn k.rg S.length a ha
    have cb := labK_conn k.rg S.length b hb
    rw [e] at ca
    exact (part_conn k h ha (ca.trans (sy cb))).symm
  · intro e
    have ra := h.low a ha
    have h2 : gi pl a < (p : Int) := by rcases h.rng a ha with q | q <;> omega
    obtain ⟨q, hq⟩ : ∃ q : Nat, gi pl a = (q : Int) := ⟨(gi pl a).toNat, by omega⟩
    obtain ⟨r, hr, h3, h4⟩ := h.root q (by omega)
    exact (lab_eq k hr (h4 a ha hq)).symm.trans (lab_eq k hr (h4 b hb (by omega)))
theorem sph_at (h : PartO M S.length pl p S.length) {c q : Nat} (hc : c < S.length) (hs : gn (labK M S.length S.length) c = c) (hq : gi pl c = (q : Int)) :
    spB M (labK M S.length S.length) c = decide ((fcI pl q (hdU (phi M) M.length M.length) : Int) - (crI pl q S.length : Int) = 2) := by
  have e1 : crN (labK M S.length S.length) c S.length = crI pl q S.length := by
    unfold crN crI
    apply List.countP_congr
    intro b hb
    have hb' := List.mem_range.1 hb
    have := lab_iff k h hb' hc
    rw [hs, hq] at this
    simp [this]
  have e2 : fcN (labK M S.length S.length) c (hdU (phi M) M.length M.length) = fcI pl q (hdU (phi M) M.length M.length) := by
    unfold fcN fcI
    apply List.countP_congr
    intro x hx
    have hx' : x / 4 < S.length := by have := hdU_mem hx; have := k.m; omega
    have := lab_iff k h hx' hc
    rw [hs, hq] at this
    simp [this]
  unfold spB
  rw [labK_length, e1, e2, hs]
  rw [Bool.eq_iff_iff]
  simp
  omega
theorem sph_eq (h : PartO M S.length pl p S.length) : sphR M S.length = (exL pl p S.length (hdU (phi M) M.length M.length)).all fun x => decide (x = 2) := by
  rw [Bool.eq_iff_iff]
  unfold sphR
  rw [List.all_eq_true, List.all_eq_true]
  constructor
  · intro H x hx
    unfold exL at hx
    obtain ⟨q, hq, rfl⟩ := List.mem_map.1 hx
    obtain ⟨r, hr, h1, _⟩ := h.root q (List.mem_range.1 hq)
    have hc := lab_lt k hr (labK_conn k.rg S.length r hr)
    have hs := lab_self k hr
    have h2 : gi pl (gn (labK M S.length S.length) r) = (q : Int) := by rw [(lab_iff k h hc hr).1 hs, h1]
    rw [← sph_at k h hc hs h2]
    exact H _ (List.mem_range.2 hc)
  · intro H c hc
    have hc' := List.mem_range.1 hc
    by_cases hs : gn (labK M S.length S.length) c = c
    · have h0 := h.low c hc'
      have h2 : gi pl c < (p : Int) := by rcases h.rng c hc' with q | q <;> omega
      obtain ⟨q, hq⟩ : ∃ q : Nat, gi pl c = (q : Int) := ⟨(gi pl c).toNat, by omega⟩
      rw [sph_at k h hc' hs hq]
      exact H _ (List.mem_map.2 ⟨q, List.mem_range.2 (by omega), rfl⟩)
    · unfold spB; simp [hs]
theorem sph_no (h : PartO M S.length pl p S.length) {q : Nat} (hq : q < p) (hne : gi (exL pl p S.length (hdU (phi M) M.length M.length)) q ≠ 2) : sphR M S.length = false := by
  rw [sph_eq k h, Bool.eq_false_iff]
  intro e
  have := List.all_eq_true.1 e (gi (exL pl p S.length (hdU (phi M) M.length M.length)) q) (by rw [gi_exL hq]; exact List.mem_map.2 ⟨q, List.mem_range.2 hq, rfl⟩)
  simp at this
  exact hne this
theorem sph_yes (h : PartO M S.length pl p S.length) (H : ∀ q, q < p → gi (exL pl p S.length (hdU (phi M) M.length M.length)) q = 2) : sphR M S.length = true := by
  rw [sph_eq k h, List.all_eq_true]
  intro x hx
  obtain ⟨q, hq, rfl⟩ := List.mem_map.1 (show x ∈ (List.range p).map _ from hx)
  have := H q (List.mem_range.1 hq)
  rw [gi_exL (List.mem_range.1 hq)] at this
  simpa using this
end
end Go.Proofs.Ytcjaloddgilnpaa

namespace Go.Proofs.Ytcjaloddgilnpaa
open Go.RowKit
set_option linter.unusedVariables false

theorem info_bool : (Try.prog.info? 4).map (fun i => (i.zero, i.size, i.bytes)) = some (some (.bool false), 1, 1) := by kernel_rfl

set_option maxHeartbeats 4000000 in
set_option maxRecDepth 100000 in
theorem spherical_code (vs vm : Value) (S M : List Int) (L : Int) (w : World) (hS : Ints w vs S) (hM : Ints w vm M) (k : Ok S M L) :
    Calls Try.prog 63 #[.agg #[vs, vm, .int .i64 L]] w fun e w' => e = .returned (.bool (sphR M S.length)) ∧ Below w.heap.size w w' := by
  obtain ⟨i0, hi0, hz0, hz1, hz2⟩ := info_parts info_int
  obtain ⟨i1, hi1, hy0, hy1, hy2⟩ := info_parts info_bool
  have hn := k.n
  have hmk := fun (p : Nat) (hp : p ≤ 64) W => run_make_one (P := Try.prog) 22 3 i0 (.int .i64 0) Try.underlying22 hi0 hz0 hz1 rfl (by rw [hz2]; decide) p (by omega) W
  have hml : M.length ≤ 256 := by have := k.m; omega
  have hmk2 := fun W => run_make_one (P := Try.prog) 78 4 i1 (.bool false) Try.underlying78 hi1 hy0 hy1 rfl (by rw [hy2]; decide) M.length (by omega) W
  have MK := Lib.hid hmk
  have MK2 := Lib.hid hmk2
  clear hmk hmk2
  have hS0 := hS
  have hM0 := hM
  obtain ⟨A, c, rfl, hc, hx⟩ := hS
  obtain ⟨A2, c2, rfl, hc2, hx2⟩ := hM
  have T2 := Lib.hid k.m
  have KK := Lib.hid k
  clear hx hx2 k
  obtain ⟨V, hV⟩ : ∃ V, V = sphR M S.length := ⟨_, rfl⟩
  rw [← hV]
  have HV := Lib.hid hV
  clear hV
  go_enter Try.func63, Try.ntmps63
  go_upto_region 1 with fail
  have hW : Arr (w.alloc (.cells #[.slice A S.length c, .slice A2 M.length c2, .int .i64 L] 24)) w.heap.size 24 [.slice A S.length c, .slice A2 M.length c2, .int .i64 L] ∧ Below w.heap.size w (w.alloc (.cells #[.slice A S.length c, .slice A2 M.length c2, .int .i64 L] 24)) := ⟨Arr.new w _ _, (Below.refl _ _).alloc (Nat.le_refl _) _⟩
  generalize (w.alloc (.cells #[.slice A S.length c, .slice A2 M.length c2, .int .i64 L] 24)) = w4 at hW ⊢
  obtain ⟨q0, hb4⟩ := hW
  have y0 := q0.cell 0
  have y1 := q0.cell 1
  have y2 := q0.cell 2
  have lw4 := q0.lt
  go_upto_region 2 with (go_at_call 78; refine (label_code _ _ S M L _ (hS0.below hb4) (hM0.below hb4) KK.out).mono ?_; rintro e w5 ⟨g, pl, p, rfl, hg5, a5, HP, hp5, hb5⟩)
  have HP' := Lib.hid HP
  have hpl := HP.len
  have hE := Lib.hid (exL_nil pl p)
  have hmk := MK.out p (by omega)
  clear HP y0 y1 y2 MK
  go_upto_region 3 with fail
  have hW : ∀ W, W = w5.alloc (.cells (rowOf (List.replicate p (Value.int .i64 0))) 3) → Arr W w5.heap.size 3 (ic (exL pl p 0 [])) ∧ Arr W g 3 (ic pl) ∧ Arr W w.heap.size 24 [.slice A S.length c, .slice A2 M.length c2, .int .i64 L] ∧ Below w.heap.size w W := by
    intro W hW
    subst hW
    have hb45 := hb4.trans (hb5.mono hb4.size)
    exact ⟨by rw [hE.out]; exact Arr.new w5 _ _, a5.alloc _, (q0.below hb5 lw4).alloc _, hb45.alloc hb45.size _⟩
  have lgE := a5.lt
  have lwg : w.heap.size < g := Nat.lt_of_lt_of_le lw4 hg5
  generalize hB : w5.heap.size = E at *
  generalize w5.alloc (.cells (rowOf (List.replicate p (Value.int .i64 0))) 3) = w6 at hW ⊢
  obtain ⟨e6, a6, q6, hb6⟩ := hW w6 rfl
  clear hB hW hmk a5 q0 hb4 hb5 hE lw4 hg5
  go_wp2_with fail
  go_loopg [7, 22] S.length (fun gk s7 s22 wr => ∃ k : Nat, k ≤ S.length ∧ gk = S.length - k ∧ s22 = .int .i64 (k : Int) ∧ Arr wr E 3 (ic (exL pl p k [])) ∧ Arr wr g 3 (ic pl) ∧ Arr wr w.heap.size 24 [.slice A S.length c, .slice A2 M.length c2, .int .i64 L] ∧ Below w.heap.size w wr)
  case atStart => exact ⟨0, Nat.zero_le _, rfl, rfl, e6, a6, q6, hb6⟩
  case round =>
    clear e6 a6 q6 hb6
    obtain ⟨k, hk, rfl, rfl, e6, a6, q6, hb6⟩ := hrel
    by_cases hlt : k < S.length
    · have z1 : (k : Int) < (S.length : Int) := by omega
      have zc := (a6.cell k).trans (ic_get (by omega))
      have h0 := HP'.out.low k hlt
      have h1 := HP'.out.rng k hlt
      obtain ⟨t, ht⟩ : ∃ t : Nat, gi pl k = (t : Int) := ⟨(gi pl k).toNat, by omega⟩
      have htp : t < p := by omega
      have HX := Lib.hid (exL_cross htp ht)
      rw [ht] at zc
      have hbd := exL_bd pl p k [] t
      have zd := (e6.cell t).trans (ic_get (by rw [exL_length]; exact htp))
      have zf := e6.frozen t
      have z2 : (t : Int) < (p : Int) := by omega
      simp only [List.length_nil] at hbd
      clear h0 h1 ht
      generalize gi (exL pl p k []) t = x at *
      go_wp2_with fail
      go_roundg (S.length - (k + 1))
      case measure => omega
      case rel => exact ⟨k + 1, by omega, rfl, by go_num, by rw [← HX.out, ← ic_set]; exact e6.set t _, a6.far (p := ⟨E, t, none⟩) (Nat.ne_of_lt lgE) _, q6.far (p := ⟨E, t, none⟩) (Nat.ne_of_lt (Nat.lt_trans lwg lgE)) _, hb6.setCell (p := ⟨E, t, none⟩) (Nat.le_of_lt (Nat.lt_trans lwg lgE)) _⟩
    · have z1 : ¬ ((k : Int) < (S.length : Int)) := by omega
      have e7 : Arr wr E 3 (ic (exL pl p S.length (hdU (phi M) M.length 0))) := by
        have hkn : k = S.length := by omega
        rw [hkn] at e6; exact e6
      clear e6
      have y1 := q6.cell 1
      have hmk2 := MK2.out
      have hmn := Lib.hid (marks_nil M.length)
      clear MK2
      go_upto_region 9 with fail
      have hW : ∀ W, W = wr.alloc (.cells (rowOf (List.replicate M.length (Value.bool false))) 4) → Arr W wr.heap.size 4 (marks M.length (fun _ => false)) ∧ Arr W E 3 (ic (exL pl p S.length (hdU (phi M) M.length 0))) ∧ Arr W g 3 (ic pl) ∧ Arr W w.heap.size 24 [.slice A S.length c, .slice A2 M.length c2, .int .i64 L] ∧ Below w.heap.size w W := by
        intro W hW
        subst hW
        exact ⟨by rw [hmn.out]; exact Arr.new wr _ _, e7.alloc _, a6.alloc _, q6.alloc _, hb6.alloc hb6.size _⟩
      have lED := e7.lt
      generalize hB : wr.heap.size = D at *
      generalize wr.alloc (.cells (rowOf (List.replicate M.length (Value.bool false))) 4) = w7 at hW ⊢
      obtain ⟨m7, e8, a8, q8, hb8⟩ := hW w7 rfl
      clear hB hW hmk2 e7 a6 q6 hb6 y1 hmn
      have y1 := q8.cell 1
      go_wp2_with fail
      clear y1 z1 hlt
      obtain ⟨wo, rfl⟩ : ∃ wo : World, wo = wr := ⟨_, rfl⟩
      go_loopg [9, 10, 40] M.length (fun gk s9 s10 s40 wi => ∃ (h : Nat) (T : Nat → Bool), h ≤ M.length ∧ gk = M.length - h ∧ s40 = .int .i64 (h : Int) ∧ Arr wi D 4 (marks M.length T) ∧ Arr wi E 3 (ic (exL pl p S.length (hdU (phi M) M.length h))) ∧ Arr wi g 3 (ic pl) ∧ Arr wi w.heap.size 24 [.slice A S.length c, .slice A2 M.length c2, .int .i64 L] ∧ Below w.heap.size w wi ∧ Hid (Mk (phi M) M.length h T))
      case atStart => exact ⟨0, _, Nat.zero_le _, rfl, rfl, m7, e8, a8, q8, hb8, Lib.hid Mk.start⟩
      case round =>
        clear m7 e8 a8 q8 hb8 hk
        obtain ⟨h, T, hh, rfl, rfl, m7, e8, a8, q8, hb8, HM⟩ := hrel
        by_cases hlt : h < M.length
        · have z1 : (h : Int) < (M.length : Int) := by omega
          have zs := (m7.cell h).trans (marks_get hlt)
          have HU := Lib.hid (hdU_succ (phi M) M.length h)
          by_cases hT : T h = true
          · have HI := HM.out.isH_old KK.out.perm hlt hT
            have HM2 := Lib.hid (HM.out.skip hlt hT)
            have HX := Lib.hid (show hdU (phi M) M.length (h + 1) = hdU (phi M) M.length h by rw [HU.out, HI]; simp)
            rw [hT] at zs
            clear hT HI HU HM
            go_wp2_with fail
            go_roundg (M.length - (h + 1))
            case measure => omega
            case rel => exact ⟨h + 1, T, by omega, rfl, by go_num, m7, by rw [HX.out]; exact e8, a8, q8, hb8, HM2⟩
          · have hT' : T h = false := by simpa using hT
            have HI := HM.out.isH_new KK.out.perm hlt hT'
            have HX := Lib.hid (show hdU (phi M) M.length (h + 1) = hdU (phi M) M.length h ++ [h] by rw [HU.out, HI]; simp)
            have HN := Lib.hid hT'
            rw [hT'] at zs
            clear hT hT' HI HU
            have h4 : h / 4 < S.length := by have := T2.out; omega
            have e5 : (h : Int) / 4 = ((h / 4 : Nat) : Int) := by omega
            have zc := (a8.cell (h / 4)).trans (ic_get (by omega))
            have h0 := HP'.out.low _ h4
            have h1 := HP'.out.rng _ h4
            obtain ⟨t, ht⟩ : ∃ t : Nat, gi pl (h / 4) = (t : Int) := ⟨(gi pl (h / 4)).toNat, by omega⟩
            have htp : t < p := by omega
            have HY := Lib.hid (exL_face (c := S.length) (hs := hdU (phi M) M.length h) htp ht)
            rw [ht] at zc
            have hbd := exL_bd pl p S.length (hdU (phi M) M.length h) t
            have hbl := hdU_len (phi M) M.length h
            have hbd2 : -64 ≤ gi (exL pl p S.length (hdU (phi M) M.length h)) t ∧ gi (exL pl p S.length (hdU (phi M) M.length h)) t ≤ 256 := by omega
            have zd := (e8.cell t).trans (ic_get (by rw [exL_length]; exact htp))
            have zf := e8.frozen t
            have z2 : (t : Int) < (p : Int) := by omega
            have z4 : ((h / 4 : Nat) : Int) < (S.length : Int) := by omega
            clear h0 h1 ht hbd hbl
            generalize gi (exL pl p S.length (hdU (phi M) M.length h)) t = x at *
            generalize h / 4 = h4' at *
            go_upto_region 14 with fail
            have hW : ∀ W, W = wr.setCell ⟨E, t, none⟩ (.int .i64 (x + 1)) → Arr W D 4 (marks M.length T) ∧ Arr W E 3 (ic (exL pl p S.length (hdU (phi M) M.length (h + 1)))) ∧ Arr W g 3 (ic pl) ∧ Arr W w.heap.size 24 [.slice A S.length c, .slice A2 M.length c2, .int .i64 L] ∧ Below w.heap.size w W := by
              intro W hW
              subst hW
              exact ⟨m7.far (p := ⟨E, t, none⟩) (Nat.ne_of_gt lED) _, by rw [HX.out, ← HY.out, ← ic_set]; exact e8.set t _, a8.far (p := ⟨E, t, none⟩) (Nat.ne_of_lt lgE) _, q8.far (p := ⟨E, t, none⟩) (Nat.ne_of_lt (Nat.lt_trans lwg lgE)) _, hb8.setCell (p := ⟨E, t, none⟩) (Nat.le_of_lt (Nat.lt_trans lwg lgE)) _⟩
            generalize wr.setCell ⟨E, t, none⟩ (.int .i64 (x + 1)) = w8 at hW ⊢
            obtain ⟨m9, e9, a9, q9, hb9⟩ := hW w8 rfl
            clear hW m7 e8 a8 q8 hb8 zs zc zd zf HX HY e5 z4
            go_wp2_with fail
            obtain ⟨wo2, rfl⟩ : ∃ wo : World, wo = wr := ⟨_, rfl⟩
            go_loopg [10] (M.length + 1) (fun gk s10 wi => ∃ (r : Nat) (R : Nat → Bool), r ≤ M.length ∧ gk = M.length + 1 - r ∧ s10 = .int .i64 (itr (phi M) r h : Nat) ∧ Arr wi D 4 (marks M.length R) ∧ Arr wi E 3 (ic (exL pl p S.length (hdU (phi M) M.length (h + 1)))) ∧ Arr wi g 3 (ic pl) ∧ Arr wi w.heap.size 24 [.slice A S.length c, .slice A2 M.length c2, .int .i64 L] ∧ Below w.heap.size w wi ∧ Hid (Mi (phi M) M.length h r T R))
            case atStart => exact ⟨0, T, Nat.zero_le _, rfl, rfl, m9, e9, a9, q9, hb9, Lib.hid Mi.start⟩
            case round =>
              clear m9 e9 a9 q9 hb9
              obtain ⟨r, R, hr, rfl, rfl, m9, e9, a9, q9, hb9, HR⟩ := hrel
              have hil := KK.out.perm.itr_lt hlt r
              have zs := (m9.cell (itr (phi M) r h)).trans (marks_get hil)
              have zf := m9.frozen (itr (phi M) r h)
              have HIS := Lib.hid (show itr (phi M) (r + 1) h = turnN (mt M (itr (phi M) r h)) 3 by rw [Nat.add_comm, itr_add]; rfl)
              have z3 : ((itr (phi M) r h : Nat) : Int) < (M.length : Int) := by omega
              by_cases hR : R (itr (phi M) r h) = true
              · have HM2 := Lib.hid (HR.out.done KK.out.perm hlt HM.out HN.out hR)
                rw [hR] at zs
                clear hR HR HIS
                generalize itr (phi M) r h = y at *
                go_wp2_with fail
                go_roundg (M.length - (h + 1))
                case measure => omega
                case rel => exact ⟨h + 1, R, by omega, rfl, by go_num, m9, e9, a9, q9, hb9, HM2⟩
              · have hR' : R (itr (phi M) r h) = false := by simpa using hR
                have HR2 := Lib.hid (HR.out.step KK.out.perm hlt hR')
                have hr1 := HR2.out.2
                rw [hR'] at zs
                clear hR hR' HR
                obtain ⟨b, o2, rfl, hbl, hcell⟩ := (hM0.below hb9).at_ hil
                have hpos := KK.out.pos _ hil
                have hmlt := KK.out.lt _ hil
                have hmt : mt M (itr (phi M) r h) = M[itr (phi M) r h].toNat := by unfold mt; rw [getD_lt hil]
                obtain ⟨m, hm⟩ : ∃ m : Nat, M[itr (phi M) r h] = (m : Int) := ⟨M[itr (phi M) r h].toNat, by omega⟩
                rw [hm] at hcell hmt
                have hmt2 : mt M (itr (phi M) r h) = m := by omega
                have HIS2 := Lib.hid (show itr (phi M) (r + 1) h = turnN m 3 by rw [HIS.out, hmt2])
                have hm2 : m < 1000 := by omega
                clear hpos hmlt hmt hm hmt2 HIS
                generalize itr (phi M) r h = y at *
                go_upto_region 16 with fail
                have hbD : b < D := by
                  have h1 := (hM0.at_ (k := 0) (by omega))
                  obtain ⟨b', o', hA, hbl', _⟩ := h1
                  injection hA with hA
                  injection hA with hA1 hA2
                  subst hA1
                  omega
                have hW : ∀ W, W = wr.setCell ⟨D, y, none⟩ (.bool true) → Arr W D 4 (marks M.length (mark R y)) ∧ Arr W E 3 (ic (exL pl p S.length (hdU (phi M) M.length (h + 1)))) ∧ Arr W g 3 (ic pl) ∧ Arr W w.heap.size 24 [.slice A S.length c, .slice (some ⟨b, o2, none⟩) M.length c2, .int .i64 L] ∧ Below w.heap.size w W ∧ W.cell? ⟨b, o2 + y, none⟩ = some (.int .i64 (m : Int)) := by
                  intro W hW
                  subst hW
                  refine ⟨by rw [← marks_set]; exact m9.set y _, e9.far (p := ⟨D, y, none⟩) (Nat.ne_of_lt lED) _, a9.far (p := ⟨D, y, none⟩) (Nat.ne_of_lt (Nat.lt_trans lgE lED)) _, q9.far (p := ⟨D, y, none⟩) (Nat.ne_of_lt (Nat.lt_trans (Nat.lt_trans lwg lgE) lED)) _, hb9.setCell (p := ⟨D, y, none⟩) (Nat.le_of_lt (Nat.lt_trans (Nat.lt_trans lwg lgE) lED)) _, ?_⟩
                  rw [← hcell]
                  have := ((Below.refl D wr).setCell (p := ⟨D, y, none⟩) (Nat.le_refl _) (.bool true)).cell (p := ⟨b, o2 + y, none⟩) hbD
                  exact this
                generalize wr.setCell ⟨D, y, none⟩ (.bool true) = w9 at hW ⊢
                obtain ⟨m10, e10, a10, q10, hb10, hcell2⟩ := hW w9 rfl
                clear hW m9 e9 a9 q9 hb9 zs zf hcell
                have y1 := q10.cell 1
                go_wp2_with (go_at_call 74; refine (turn_code m _ hm2).mono ?_; rintro e w11 ⟨rfl, rfl⟩)
                go_roundg (M.length + 1 - (r + 1))
                case measure => omega
                case rel => exact ⟨r + 1, mark R y, by omega, rfl, by rw [HIS2.out], m10, e10, a10, q10, hb10, Lib.hid HR2.out.1⟩
        · have z1 : ¬ ((h : Int) < (M.length : Int)) := by omega
          have e9 : Arr wr E 3 (ic (exL pl p S.length (hdU (phi M) M.length M.length))) := by
            have hkn : h = M.length := by omega
            rw [hkn] at e8; exact e8
          clear e8 HM m7
          have HNO := Lib.hid (fun q (hq : q < p) h => sph_no KK.out HP'.out hq h)
          have HYES := Lib.hid (fun H => sph_yes KK.out HP'.out H)
          have hlE := exL_length pl p S.length (hdU (phi M) M.length M.length)
          generalize exL pl p S.length (hdU (phi M) M.length M.length) = ex at *
          go_wp2_with fail
          clear z1 hlt hh
          obtain ⟨wo2, rfl⟩ : ∃ wo : World, wo = wr := ⟨_, rfl⟩
          go_loopg [12, 75] p (fun gk s12 s75 wi => ∃ q : Nat, q ≤ p ∧ gk = p - q ∧ s75 = .int .i64 (q : Int) ∧ Arr wi E 3 (ic ex) ∧ Below w.heap.size w wi ∧ Hid (∀ i, i < q → gi ex i = 2))
          case atStart => exact ⟨0, Nat.zero_le _, rfl, rfl, e9, hb8, Lib.hid fun i hi => by omega⟩
          case round =>
            clear e9 hb8
            obtain ⟨q, hq, rfl, rfl, e9, hb8, HQ⟩ := hrel
            by_cases hlt : q < p
            · have z1 : (q : Int) < (p : Int) := by omega
              have zc := (e9.cell q).trans (ic_get (by omega))
              by_cases he : gi ex q = 2
              · have HQ2 : Hid (∀ i, i < q + 1 → gi ex i = 2) := Lib.hid fun i hi => by
                  rcases Nat.lt_or_ge i q with h1 | h1
                  · exact HQ.out i h1
                  · have : i = q := by omega
                    subst this; exact he
                rw [he] at zc
                clear he HQ
                go_wp2_with fail
                go_roundg (p - (q + 1))
                case measure => omega
                case rel => exact ⟨q + 1, by omega, rfl, by go_num, e9, hb8, HQ2⟩
              · have HE := Lib.hid (HV.out.trans (HNO.out q hlt he))
                generalize gi ex q = x at *
                have he' : (x != 2) = true := by simp [he]
                go_wp2_with fail
                go_ret
                exact ⟨by rw [HE.out]; rfl, hb8⟩
            · have z1 : ¬ ((q : Int) < (p : Int)) := by omega
              have HE := Lib.hid (HV.out.trans (HYES.out fun i hi => HQ.out i (by omega)))
              go_wp2_with fail
              go_ret
              exact ⟨by rw [HE.out]; rfl, hb8⟩
end Go.Proofs.Ytcjaloddgilnpaa
