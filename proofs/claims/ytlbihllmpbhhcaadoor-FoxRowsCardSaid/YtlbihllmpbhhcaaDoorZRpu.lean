/- unravelref12.put. -/
import Derived.Test.YtlbihllmpbhhcaaDoorZBase2
import Derived.Test.YtlbihllmpbhhcaaDoorZRwp
import Derived.Test.YtlbihllmpbhhcaaDoorZCha
import Derived.Test.YtlbihllmpbhhcaaDoorZRwd
import Derived.Test.YtlbihllmpbhhcaaDoorZPhs
import Derived.Test.YtlbihllmpbhhcaaDoorZPsh
namespace Go.Proofs.YtlbihllmpbhhcaaDoor
open Go.RowKit
set_option linter.unusedVariables false

def insL : List (Int × Int) → Int → Int → List (Int × Int)
  | [], x, X => [(x, X)]
  | t :: L, x, X => if t.1 < x then t :: insL L x X else if t.1 = x then (x, t.2 + X) :: L else (x, X) :: t :: L
theorem insL_cf (L : List (Int × Int)) (x X e : Int) : cf (insL L x X) e = cf L e + if x = e then X else 0 := by
  induction L with
  | nil => rw [insL, cf_one, cf_nil]; omega
  | cons t L ih =>
    rw [insL]
    split
    · rw [cf_cons, cf_cons, ih]; omega
    · split
      · next h =>
        rw [cf_cons, cf_cons, h]
        split <;> omega
      · rw [cf_cons]
        split <;> omega
theorem insL_mem {L : List (Int × Int)} {x X : Int} {t : Int × Int} (h : t ∈ insL L x X) : (∃ s ∈ L, s.1 = t.1) ∨ t.1 = x := by
  induction L with
  | nil => rw [insL, List.mem_singleton] at h; rw [h]; exact .inr rfl
  | cons s L ih =>
    rw [insL] at h
    split at h
    · rcases List.mem_cons.1 h with rfl | h
      · exact .inl ⟨t, List.mem_cons_self .., rfl⟩
      · rcases ih h with ⟨q, hq, e⟩ | e
        · exact .inl ⟨q, List.mem_cons_of_mem _ hq, e⟩
        · exact .inr e
    · split at h
      · rcases List.mem_cons.1 h with rfl | h
        · exact .inr rfl
        · exact .inl ⟨t, List.mem_cons_of_mem _ h, rfl⟩
      · rcases List.mem_cons.1 h with rfl | h
        · exact .inr rfl
        · exact .inl ⟨t, h, rfl⟩
theorem insL_srt {L : List (Int × Int)} {x X : Int} (h : Srt L) : Srt (insL L x X) := by
  induction L with
  | nil => exact List.pairwise_singleton _ _
  | cons s L ih =>
    obtain ⟨h1, h2⟩ := List.pairwise_cons.1 h
    rw [insL]
    split
    · next hx =>
      refine List.pairwise_cons.2 ⟨fun t ht => ?_, ih h2⟩
      rcases insL_mem ht with ⟨q, hq, e⟩ | e
      · have := h1 q hq; omega
      · omega
    · split
      · next hx => exact List.pairwise_cons.2 ⟨fun t ht => by have := h1 t ht; show x < t.1; omega, h2⟩
      · refine List.pairwise_cons.2 ⟨fun t ht => ?_, h⟩
        rcases List.mem_cons.1 ht with rfl | ht
        · show x < t.1; omega
        · have := h1 t ht; show x < t.1; omega
theorem insL_len (L : List (Int × Int)) (x X : Int) : (insL L x X).length ≤ L.length + 1 := by
  induction L with
  | nil => simp [insL]
  | cons t L ih =>
    rw [insL]
    split
    · simp; omega
    · split <;> simp
theorem insL_new : ∀ {L : List (Int × Int)} {x X : Int} {i : Nat}, i ≤ L.length → (∀ j (hj : j < L.length), j < i → L[j].1 < x) → (∀ hi : i < L.length, x < L[i].1) → insL L x X = L.take i ++ [(x, X)] ++ L.drop i
  | [], x, X, i, hi, _, _ => by
    obtain rfl : i = 0 := by simpa using hi
    rfl
  | t :: L, x, X, 0, hi, h1, h2 => by
    have := h2 (by simp)
    simp only [List.getElem_cons_zero] at this
    rw [insL, if_neg (by omega), if_neg (by omega)]; rfl
  | t :: L, x, X, i + 1, hi, h1, h2 => by
    have h0 := h1 0 (by simp) (by omega)
    simp only [List.getElem_cons_zero] at h0
    rw [insL, if_pos h0, insL_new (i := i) (by simpa using hi) (fun j hj hji => by have := h1 (j + 1) (by simpa using hj) (by omega); simpa using this) (fun hi => by have := h2 (by simpa using hi); simpa using this)]
    rfl
theorem insL_old : ∀ {L : List (Int × Int)} {x X : Int} {i : Nat} (hi : i < L.length), (∀ j (hj : j < L.length), j < i → L[j].1 < x) → L[i].1 = x → insL L x X = L.set i (x, L[i].2 + X)
  | [], x, X, i, hi, _, _ => by simp at hi
  | t :: L, x, X, 0, hi, h1, h2 => by
    simp only [List.getElem_cons_zero] at h2
    rw [insL, if_neg (by omega), if_pos h2]; rfl
  | t :: L, x, X, i + 1, hi, h1, h2 => by
    have h0 := h1 0 (by simp) (by omega)
    simp only [List.getElem_cons_zero] at h0
    simp only [List.getElem_cons_succ] at h2
    rw [insL, if_pos h0, insL_old (i := i) (by simpa using hi) (fun j hj hji => by have := h1 (j + 1) (by simpa using hj) (by omega); simpa using this) h2]
    rfl
theorem map_set_fst {L : List (Int × Int)} {x X : Int} {i : Nat} (hi : i < L.length) (h : L[i].1 = x) : (L.set i (x, X)).map (·.1) = L.map (·.1) := by
  rw [List.map_set]
  apply List.ext_getElem?
  intro j
  rw [List.getElem?_set]
  by_cases e : i = j
  · subst e
    rw [if_pos rfl, if_pos (by simpa using hi), List.getElem?_map, List.getElem?_eq_getElem hi, ← h]; rfl
  · rw [if_neg e]
/-- collecting the sums -/
def colL : List (Int × Int) → List (Int × Int)
  | [] => []
  | t :: L => (if t.2 = 0 then [] else [t]) ++ colL L
def colB : List (Int × Int) → Bool
  | [] => true
  | t :: L => (t.2 == 0 || (decide (-1125899906842624 ≤ t.2 ∧ t.2 ≤ 1125899906842624) && decide (-1048576 ≤ t.1 ∧ t.1 ≤ 1048576))) && colB L
theorem colL_append (L M : List (Int × Int)) : colL (L ++ M) = colL L ++ colL M := by
  induction L with
  | nil => rfl
  | cons t L ih => rw [List.cons_append, colL, colL, ih, List.append_assoc]
theorem colB_append (L M : List (Int × Int)) : colB (L ++ M) = (colB L && colB M) := by
  induction L with
  | nil => rfl
  | cons t L ih => rw [List.cons_append, colB, colB, ih, Bool.and_assoc]
theorem colL_mem {L : List (Int × Int)} {t : Int × Int} (h : t ∈ colL L) : t ∈ L ∧ t.2 ≠ 0 := by
  induction L with
  | nil => cases h
  | cons s L ih =>
    rw [colL] at h
    rcases List.mem_append.1 h with h | h
    · split at h
      · cases h
      · next h0 => rw [List.mem_singleton.1 h]; exact ⟨List.mem_cons_self .., h0⟩
    · have := ih h; exact ⟨List.mem_cons_of_mem _ this.1, this.2⟩
theorem colL_can {L : List (Int × Int)} (h : Srt L) : Can (colL L) := by
  induction L with
  | nil => exact Can.nil
  | cons s L ih =>
    obtain ⟨h1, h2⟩ := List.pairwise_cons.1 h
    have := ih h2
    rw [colL]
    split
    · exact this
    · next h0 =>
      refine ⟨List.pairwise_cons.2 ⟨fun t ht => h1 t (colL_mem ht).1, this.srt⟩, fun t ht => ?_⟩
      rcases List.mem_cons.1 ht with rfl | ht
      · exact h0
      · exact this.nz t ht
theorem colL_cf (L : List (Int × Int)) (e : Int) : cf (colL L) e = cf L e := by
  induction L with
  | nil => rfl
  | cons s L ih =>
    rw [colL, cf_append, ih, cf_cons]
    split
    · next h0 => rw [h0, cf_nil]; split <;> omega
    · rw [cf_one]
theorem colL_len (L : List (Int × Int)) : (colL L).length ≤ L.length := by
  induction L with
  | nil => exact Nat.le_refl _
  | cons s L ih =>
    rw [colL, List.length_append]
    split <;> simp <;> omega
theorem colB_iff {L : List (Int × Int)} : colB L = true ↔ Lim (colL L) := by
  induction L with
  | nil => exact ⟨fun _ => Lim.nil, fun _ => rfl⟩
  | cons s L ih =>
    rw [colB, colL, Bool.and_eq_true, ih]
    by_cases h0 : s.2 = 0
    · rw [if_pos h0, h0]; simp
    · rw [if_neg h0]
      have e : (s.2 == 0) = false := by simp [h0]
      rw [e, Bool.false_or, Bool.and_eq_true, decide_eq_true_eq, decide_eq_true_eq]
      constructor
      · rintro ⟨⟨a, b⟩, c⟩
        exact ⟨fun t ht => by rcases List.mem_cons.1 ht with rfl | ht; exact a; exact c.co t ht, fun t ht => by rcases List.mem_cons.1 ht with rfl | ht; exact b; exact c.ex t ht⟩
      · intro h
        exact ⟨⟨h.co s (List.mem_cons_self ..), h.ex s (List.mem_cons_self ..)⟩, fun t ht => h.co t (List.mem_cons_of_mem _ ht), fun t ht => h.ex t (List.mem_cons_of_mem _ ht)⟩
theorem colB_take {L : List (Int × Int)} {k : Nat} (h : colB (L.take k) = false) : colB L = false := by
  have e : L = L.take k ++ L.drop k := (List.take_append_drop k L).symm
  rw [e, colB_append, h]; rfl
/-- what collect returns -/
def colP (L : List (Int × Int)) : Pol := if colB L = true then some (colL L) else none


def ei (x : Int) : List Value := [.int .i64 x]
def ew (x : Int) : List Value := [.int .i64 (nh x), .int .i64 (nl x)]
theorem info_int3 : (Tryd.prog.info? 3).map (fun i => (i.zero, i.size, i.bytes)) = some (some (.int .i64 0), 1, 8) := by kernel_rfl
theorem info_rw3 : (Tryd.prog.info? 114).map (fun i => (i.zero, i.size, i.bytes)) = some (some (.agg #[.int .i64 0, .int .i64 0]), 2, 16) := by kernel_rfl
theorem elI : ElA Tryd.prog 3 1 ei where
  ex := by
    obtain ⟨i, hi, hz, hs, hb⟩ := info_parts info_int3
    exact ⟨i, _, 8, hi, hz, hs, hb, rfl, by omega⟩
  pos := by omega
  len := fun x => rfl
  one := fun x q h => by unfold ei at h; simp at h; subst h; rfl
theorem elW : ElA Tryd.prog 114 2 ew where
  ex := by
    obtain ⟨i, hi, hz, hs, hb⟩ := info_parts info_rw3
    exact ⟨i, _, 16, hi, hz, hs, hb, rfl, by omega⟩
  pos := by omega
  len := fun x => rfl
  one := fun x q h => by unfold ew at h; simp at h; rcases h with rfl | rfl <;> rfl
section
variable {α : Type} {enc : α → List Value} {sz : Nat} {w : World}
theorem flat_len (hl : ∀ x, (enc x).length = sz) (ys : List α) : (ys.flatMap enc).length = ys.length * sz := by
  induction ys with
  | nil => simp
  | cons x xs ih => rw [List.flatMap_cons, List.length_append, ih, hl, List.length_cons, Nat.succ_mul]; omega
theorem flat_get (hl : ∀ x, (enc x).length = sz) : ∀ (ys : List α) (k j : Nat) (h : k < ys.length), j < sz → (ys.flatMap enc)[k * sz + j]? = (enc ys[k])[j]? := by
  intro ys
  induction ys with
  | nil => intro k j h; simp at h
  | cons m l ih =>
    intro k j h hj
    rw [List.flatMap_cons]
    cases k with
    | zero => rw [List.getElem?_append_left (by rw [hl]; omega)]; simp
    | succ k =>
      rw [List.getElem?_append_right (by rw [hl, Nat.succ_mul]; omega)]
      have := ih k j (by simpa using h) hj
      rw [show (k + 1) * sz + j - (enc m).length = k * sz + j from by rw [hl, Nat.succ_mul]; omega, this]
      simp
theorem flat_drop (hl : ∀ x, (enc x).length = sz) : ∀ (k : Nat) (ys : List α), (ys.drop k).flatMap enc = (ys.flatMap enc).drop (k * sz)
  | 0, ys => by simp
  | k + 1, [] => by simp
  | k + 1, y :: ys => by
    have e1 : (enc y).drop ((k + 1) * sz) = [] := List.drop_eq_nil_of_le (by rw [hl, Nat.succ_mul]; omega)
    have e2 : (k + 1) * sz - sz = k * sz := by rw [Nat.succ_mul]; omega
    rw [List.drop_succ_cons, flat_drop hl k ys, List.flatMap_cons, List.drop_append, e1, hl, e2, List.nil_append]
theorem flat_take (hl : ∀ x, (enc x).length = sz) : ∀ (k : Nat) (ys : List α), (ys.take k).flatMap enc = (ys.flatMap enc).take (k * sz)
  | 0, ys => by simp
  | k + 1, [] => by simp
  | k + 1, y :: ys => by
    have e1 : (enc y).take ((k + 1) * sz) = enc y := List.take_of_length_le (by rw [hl, Nat.succ_mul]; omega)
    have e2 : (k + 1) * sz - sz = k * sz := by rw [Nat.succ_mul]; omega
    rw [List.take_succ_cons, List.flatMap_cons, List.flatMap_cons, flat_take hl k ys, List.take_append, e1, hl, e2]
/-- a part of a slice reads as the part of the list -/
theorem SlA.sub (hl : ∀ x, (enc x).length = sz) (hs : 0 < sz) {A : Option Addr} {n c lo hi : Nat} {ys : List α} (h : SlA enc w (.slice A n c) ys) (h1 : lo ≤ hi) (h2 : hi ≤ ys.length) (c' : Nat) (hc : hi - lo ≤ c') (A' : Option Addr) (hA : lo < hi → A' = A.map (·.add (lo * sz))) :
    SlA enc w (.slice A' (hi - lo) c') ((ys.take hi).drop lo) := by
  obtain ⟨A0, c0, hv, hcap, hx⟩ := h
  injection hv with e1 e2 e3
  subst e1
  have hlen : ((ys.take hi).drop lo).length = hi - lo := by simp; omega
  refine ⟨A', c', by rw [hlen], by omega, fun j q hq => ?_⟩
  have hj : j < ((ys.take hi).drop lo).length * sz := by
    have := (List.getElem?_eq_some_iff.1 hq).1
    rwa [flat_len hl] at this
  rw [hlen] at hj
  have hlt : lo < hi := by
    rcases Nat.lt_or_ge lo hi with q | q
    · exact q
    · rw [show hi - lo = 0 by omega, Nat.zero_mul] at hj; omega
  rw [flat_drop hl, List.getElem?_drop, flat_take hl, List.getElem?_take, if_pos (by
    have : lo * sz + (hi - lo) * sz = hi * sz := by rw [← Nat.add_mul]; congr 1; omega
    omega)] at hq
  obtain ⟨b, o, hA0, hcell⟩ := hx _ q hq
  subst hA0
  refine ⟨b, o + lo * sz, ?_, by rw [Nat.add_assoc]; exact hcell⟩
  rw [hA hlt]
  simp only [Option.map_some, Addr.add]
  split <;> simp_all
end
theorem SlA.ints {w : World} {v : Value} {xs : List Int} (h : SlA ei w v xs) : Ints w v xs := by
  obtain ⟨A, c, hv, hc, hx⟩ := h
  refine ⟨A, c, hv, hc, fun k x hk => ?_⟩
  have hk2 := List.getElem?_eq_some_iff.1 hk
  have := flat_get (enc := ei) (sz := 1) (fun x => rfl) xs k 0 hk2.1 (by omega)
  rw [Nat.mul_one, Nat.add_zero, hk2.2] at this
  exact hx k _ this
theorem Ints.sla {w : World} {v : Value} {xs : List Int} (h : Ints w v xs) : SlA ei w v xs := by
  obtain ⟨A, c, hv, hc, hx⟩ := h
  refine ⟨A, c, hv, hc, fun j q hq => ?_⟩
  have hj : j < xs.length := by
    have := (List.getElem?_eq_some_iff.1 hq).1
    rw [flat_len (enc := ei) (sz := 1) (fun x => rfl)] at this; omega
  have := flat_get (enc := ei) (sz := 1) (fun x => rfl) xs j 0 hj (by omega)
  rw [Nat.mul_one, Nat.add_zero, hq] at this
  injection this with this
  obtain ⟨b, o, hA, hcell⟩ := hx j xs[j] (List.getElem?_eq_getElem hj)
  exact ⟨b, o, hA, by rw [this]; exact hcell⟩
/-- an element of a slice of wide integers -/
theorem SlA.wat {w : World} {A : Option Addr} {n c k : Nat} {xs : List Int} (h : SlA ew w (.slice A n c) xs) (hk : k < xs.length) : ∃ b o, A = some ⟨b, o, none⟩ ∧ n = xs.length ∧ w.cell? ⟨b, o + k * 2, none⟩ = some (.int .i64 (nh xs[k])) ∧ w.cell? ⟨b, o + k * 2 + 1, none⟩ = some (.int .i64 (nl xs[k])) := by
  obtain ⟨A', c', hv, hc, hx⟩ := h
  injection hv with e1 e2 e3
  subst e1
  have h0 := flat_get (enc := ew) (sz := 2) (fun x => rfl) xs k 0 hk (by omega)
  have h1 := flat_get (enc := ew) (sz := 2) (fun x => rfl) xs k 1 hk (by omega)
  obtain ⟨b, o, hA, hcell⟩ := hx _ _ h0
  obtain ⟨b', o', hA', hcell'⟩ := hx _ _ h1
  rw [hA] at hA'
  injection hA' with hA'
  injection hA' with q1 q2
  subst q1 q2
  exact ⟨b, o, hA, e2, hcell, by rw [Nat.add_assoc]; exact hcell'⟩
/-- an element of an own slice of wide integers, and its replacement -/
theorem OwnA.wset {base : Nat} {w : World} {A : Option Addr} {n c k : Nat} {xs : List Int} (h : OwnA 114 2 ew base w (.slice A n c) xs) (hk : k < xs.length) : ∃ b, A = some ⟨b, 0, none⟩ ∧ base ≤ b ∧ n = xs.length ∧ w.cell? ⟨b, k * 2, none⟩ = some (.int .i64 (nh xs[k])) ∧ w.cell? ⟨b, k * 2 + 1, none⟩ = some (.int .i64 (nl xs[k])) ∧ w.frozen? ⟨b, k * 2, none⟩ = false ∧ w.frozen? ⟨b, k * 2 + 1, none⟩ = false ∧ ∀ y, OwnA 114 2 ew base ((w.setCell ⟨b, k * 2, none⟩ (.int .i64 (nh y))).setCell ⟨b, k * 2 + 1, none⟩ (.int .i64 (nl y))) (.slice A n c) (xs.set k y) := by
  have hs := h.sl
  rcases h.2 with ⟨h1, h0⟩ | ⟨b, cap, cur, hv, hb, hh, hn, hm, hc', ht⟩
  · omega
  · injection hv with e1 e2 e3
    subst e1 e3
    obtain ⟨b', o', hA, hn2, c0, c1⟩ := hs.wat hk
    injection hA with hA
    injection hA with q1 q2
    subst q1 q2
    rw [Nat.zero_add] at c0 c1
    refine ⟨b, rfl, hb, e2, c0, c1, frozen_of_row w b _ _ 114 hh, frozen_of_row w b _ _ 114 hh, fun y => ?_⟩
    have hlen : (xs.set k y).length = xs.length := List.length_set
    have hf : (xs.set k y).flatMap ew = ((xs.flatMap ew).set (k * 2) (.int .i64 (nh y))).set (k * 2 + 1) (.int .i64 (nl y)) := by
      apply List.ext_getElem?
      intro j
      have hl1 := flat_len (enc := ew) (sz := 2) (fun x => rfl) xs
      have hl2 := flat_len (enc := ew) (sz := 2) (fun x => rfl) (xs.set k y)
      rw [hlen] at hl2
      rw [List.getElem?_set, List.getElem?_set]
      by_cases hj : j < xs.length * 2
      · have hm2 : j / 2 < xs.length := by omega
        have hg1 := flat_get (enc := ew) (sz := 2) (fun x => rfl) (xs.set k y) (j / 2) (j % 2) (by rw [hlen]; exact hm2) (by omega)
        have hg2 := flat_get (enc := ew) (sz := 2) (fun x => rfl) xs (j / 2) (j % 2) hm2 (by omega)
        rw [show j / 2 * 2 + j % 2 = j by omega] at hg1 hg2
        rw [hg1, hg2, List.getElem_set]
        by_cases e : k = j / 2
        · rw [if_pos e]
          rcases (by omega : j % 2 = 0 ∨ j % 2 = 1) with q | q
          · rw [q, if_neg (by omega), if_pos (by omega), if_pos (by omega)]; rfl
          · rw [q, if_pos (by omega), if_pos (by rw [List.length_set]; omega)]; rfl
        · rw [if_neg e, if_neg (by omega), if_neg (by omega)]
      · rw [List.getElem?_eq_none (by omega), if_neg (by omega), if_neg (by omega), List.getElem?_eq_none (by omega)]
    unfold OwnA
    rw [hlen]
    refine ⟨by rw [hf, List.length_set, List.length_set]; exact h.1, .inr ⟨b, c, (cur.setIfInBounds (k * 2) (.int .i64 (nh y))).setIfInBounds (k * 2 + 1) (.int .i64 (nl y)), by rw [e2], hb, ?_, by rw [← e2]; exact e2 ▸ hn, hm, by rw [Array.size_setIfInBounds, Array.size_setIfInBounds]; exact hc', ?_⟩⟩
    · exact heap_setCell_same _ b _ _ _ _ (heap_setCell_same w b _ _ _ _ hh)
    · rw [Array.toList_setIfInBounds, Array.toList_setIfInBounds, hf, ← ht, List.take_set, List.take_set]
/-- the sums so far: exponents and wide integers -/
def Sums (w : World) (v1 v2 : Value) (L : List (Int × Int)) : Prop := SlA ei w v1 (L.map (·.1)) ∧ SlA ew w v2 (L.map (·.2))
theorem Sums.below {w w' : World} {v1 v2 : Value} {L : List (Int × Int)} (h : Sums w v1 v2 L) (hb : Below w.heap.size w w') : Sums w' v1 v2 L := ⟨h.1.below hb, h.2.below hb⟩
set_option maxHeartbeats 4000000 in
set_option maxRecDepth 100000 in
theorem put_ref (v1 v2 : Value) (L : List (Int × Int)) (ex X : Int) (w : World) (hs : Sums w v1 v2 L) (hl : L.length ≤ 1000000) (hX : -649037107316853453566312041152512 ≤ X ∧ X ≤ 649037107316853453566312041152512) (hL : ∀ t ∈ L, -649037107316853453566312041152512 ≤ t.2 ∧ t.2 ≤ 649037107316853453566312041152512) :
    Calls Tryd.prog 66 #[v1, v2, .int .i64 ex, .agg #[.int .i64 (nh X), .int .i64 (nl X)]] w fun e w' => ∃ u1 u2, e = .returned (.tuple #[u1, u2]) ∧ Sums w' u1 u2 (insL L ex X) ∧ Below w.heap.size w w' := by
  have HS := Lib.hid (fun W (hb : Below w.heap.size w W) => hs.below hb)
  have HLB := Lib.hid hL
  obtain ⟨⟨A, c, rfl, hcA, _⟩, A2, c2, rfl, hcB, _⟩ := hs
  rw [List.length_map] at hcA hcB HS ⊢
  rw [List.length_map] at HS ⊢
  have hW : ∀ (d1 d2 : Int) W, W = w.alloc (.cells #[.int .i64 d1, .int .i64 d2] 114) → Arr W w.heap.size 114 [.int .i64 d1, .int .i64 d2] ∧ Below w.heap.size w W := by
    intro d1 d2 W hW
    subst hW
    exact ⟨Arr.new _ _ [_, _], (Below.refl _ _).alloc (Nat.le_refl _) _⟩
  replace hW := hW (nh X) (nl X)
  have HX := Lib.hid hX
  clear hX hL
  obtain ⟨n, hn⟩ : ∃ n, n = L.length := ⟨_, rfl⟩
  rw [← hn] at hl hcA hcB HS ⊢
  have HN := Lib.hid hn
  clear hn
  go_enter Tryd.func66, Tryd.ntmps66
  go_upto_region 1 with fail
  generalize (w.alloc (.cells #[.int .i64 (nh X), .int .i64 (nl X)] 114)) = w3 at hW ⊢
  obtain ⟨qx, hb3⟩ := hW w3 rfl
  have HQ := Lib.hid qx
  have HB := Lib.hid hb3
  have HS3 := Lib.hid (fun W (hb : Below w3.heap.size w3 W) => HS.out W (hb3.trans (hb.mono hb3.size)))
  clear hW qx hb3 HS
  go_wp2_with fail
  go_loopg [10] n (fun gk s10 wr => ∃ m : Nat, m ≤ n ∧ gk = n - m ∧ s10 = .int .i64 (m : Int) ∧ Hid (∀ j (hj : j < L.length), j < m → L[j].1 < ex) ∧ w3 = wr)
  case atStart => exact ⟨0, Nat.zero_le _, rfl, rfl, Lib.hid (fun j hj h => by omega), rfl⟩
  case round =>
    obtain ⟨m, hi, rfl, rfl, HP, rfl⟩ := hrel
    by_cases hlt : m < n
    · have z1 : (m : Int) < (n : Int) := by omega
      have hiL : m < L.length := by have := HN.out; omega
      obtain ⟨b, o, ⟨c', hv⟩, _, hcell⟩ := ints_atZ (HS3.out w3 (Below.refl _ _)).1.ints (k := m) (by simpa using hiL)
      injection hv with hv1 hv2 hv3
      subst hv1 hv3
      clear hv2
      rw [List.getElem_map] at hcell
      by_cases hlx : L[m].1 < ex
      · have HP2 := Lib.hid (show ∀ j (hj : j < L.length), j < m + 1 → L[j].1 < ex from fun j hj h => by
          by_cases e : j = m
          · subst e; exact hlx
          · exact HP.out j hj (by omega))
        generalize L[m].1 = y at *
        clear HP
        go_wp2_with fail
        go_roundg (n - (m + 1))
        case measure => omega
        case rel => exact ⟨m + 1, by omega, rfl, by go_num, HP2, rfl⟩
      · by_cases heq : L[m].1 = ex
        · have h0 := heq
          clear h0
          have HK := Lib.hid (insL_old (L := L) (x := ex) (X := X) (i := m) hiL (fun j hj h => HP.out j hj h) heq)
          obtain ⟨y2, hy2⟩ : ∃ z, z = L[m].2 := ⟨_, rfl⟩
          have HLM := Lib.hid (show (L.map (fun t : Int × Int => t.1)).length = n ∧ (L.map (fun t : Int × Int => t.2)).length = n from ⟨by rw [List.length_map]; exact HN.out.symm, by rw [List.length_map]; exact HN.out.symm⟩)
          have HK1 := Lib.hid (show (insL L ex X).map (fun t : Int × Int => t.1) = L.map (fun t : Int × Int => t.1) from by rw [HK.out]; exact map_set_fst hiL heq)
          have HK2 := Lib.hid (show (insL L ex X).map (fun t : Int × Int => t.2) = (L.map (fun t : Int × Int => t.2)).set m (y2 + X) from by rw [HK.out, List.map_set, hy2])
          have HY := Lib.hid (show ∃ h : m < (L.map (fun t : Int × Int => t.2)).length, (L.map (fun t : Int × Int => t.2))[m] = y2 from ⟨by simpa using hiL, by rw [List.getElem_map]; exact hy2.symm⟩)
          have HYB := Lib.hid (show -649037107316853453566312041152512 ≤ y2 ∧ y2 ≤ 649037107316853453566312041152512 from by rw [hy2]; exact HLB.out _ (List.getElem_mem hiL))
          obtain ⟨AX, hAX⟩ : ∃ a : Option Addr, a = some ⟨b, o, none⟩ := ⟨_, rfl⟩
          have HSX := Lib.hid (fun W (hb : Below w3.heap.size w3 W) => (show SlA ei W (.slice (some ⟨b, o, none⟩) n c) (L.map (fun t : Int × Int => t.1)) from (HS3.out W hb).1))
          have HSY := Lib.hid (fun W (hb : Below w3.heap.size w3 W) => (show SlA ew W (.slice A2 n c2) (L.map (fun t : Int × Int => t.2)) from (HS3.out W hb).2))
          generalize L[m].1 = y at *
          generalize L.map (fun t : Int × Int => t.1) = LX at *
          generalize L.map (fun t : Int × Int => t.2) = LY at *
          have zy : (y == ex) = true := by rw [beq_iff_eq]; exact heq
          clear HK HP hy2 heq hAX
          have HNB := Lib.hid hl
          go_upto_region 6 with (at_builtin; go_loud (refine wpList_appA rfl elW (.tmp 40) (.tmp 41) 110 110 rfl Tryd.underlying110 Tryd.underlying110 rfl (OwnA.emptyAt (Nat.le_refl _) (heap_alloc_new w3 _)) rfl (HSY.out _ ((Below.refl _ _).alloc (Nat.le_refl _) _)) (by have := HLM.out; have := HNB.out; simp; omega) (by simp) ?_); go_loud (intro v' wc h1 h2 h3 h4; have H1 := Lib.hid h1; have H2 := Lib.hid (((Below.refl _ _).alloc (Nat.le_refl _) _).trans h2); clear h1 h2 h3 h4; rw [List.nil_append] at H1; obtain ⟨AO, cO, rfl⟩ := H1.out.form))
          have ho := H1.out
          have hb4 := H2.out
          clear H1 H2
          rw [HLM.out.2] at ho ⊢
          obtain ⟨hm1, hm2⟩ := HY.out
          obtain ⟨g, rfl, hgb, q1, q2⟩ := ho.wset hm1
          clear q1 q2
          have HO := Lib.hid (fun W (hb : Below wc.heap.size wc W) => ((ho.below hb).wset hm1))
          have HM2 := Lib.hid hm2
          have HGB := Lib.hid hgb
          have HB4 := Lib.hid hb4
          have HQ4 := Lib.hid (HQ.out.below hb4 HQ.out.lt)
          have z1 : (m : Int) < (n : Int) := by omega
          clear ho hb4 hgb hm2
          refine wp_region_phis 9 (by kernel_rfl) (by kernel_rfl) (by kernel_rfl) (by kernel_rfl) (by kernel_rfl) rfl (by kernel_rfl) (phiT (fun i => ([some (.slice (some ⟨g, 0, none⟩) n cO), some (.int .i64 (m : Int)), some (.slice (some ⟨g, 0, none⟩) n cO), some (.int .i64 (m : Int)), some (.pointer (some ⟨g, m * 2, none⟩)), some (.agg #[.int .i64 (nh y2), .int .i64 (nl y2)]), some (.agg #[.int .i64 (nh X), .int .i64 (nl X)]), some (.agg #[.int .i64 (nh (y2 + X)), .int .i64 (nl (y2 + X))]), some (.pointer (some ⟨g, m * 2, none⟩)), some (undef)] : List (Option Value)).getD i none) (fun i v w => True)) (fun i v w w' h hb => ?_) (fun i => false) (fun i v w hi h k hk => ?_) (fun _ W => OwnA 114 2 ew w3.heap.size W (.slice (some ⟨g, 0, none⟩) n cO) (LY.set m (y2 + X)) ∧ Below w3.heap.size w3 W) ⟨?_, ?_, ?_, ?_, ?_, ?_, ?_, ?_, ?_, ?_, trivial⟩ ?_
          · unfold phiT at h ⊢
            split
            · next u hu => rw [hu] at h; exact h
            · next hu =>
              rw [hu] at h
              exact True.intro
          · simp only [Bool.or_eq_true, decide_eq_true_eq, Bool.false_eq_true] at hi
          · intro x w1 bA hbel hdep hdap hold hb
            refine ⟨fun _ => ?_, fun h => absurd h (by decide)⟩
            have e11 : bA.tmps[11]?.getD undef = .slice (some ⟨g, 0, none⟩) n cO := hb 11
            refine phf_run (.slice (some ⟨g, 0, none⟩) n cO) rfl ?_ rfl
            clear hb hdep hdap hold
            go_simp
          · intro x w1 bA hbel hdep hdap hold hb
            refine ⟨fun _ => ?_, fun h => absurd h (by decide)⟩
            have e10 : bA.tmps[10]?.getD undef = .int .i64 (m : Int) := hb 10
            refine phf_run (.int .i64 (m : Int)) rfl ?_ rfl
            clear hb hdep hdap hold
            go_simp
          · intro x w1 bA hbel hdep hdap hold hb
            refine ⟨fun _ => ?_, fun h => absurd h (by decide)⟩
            have e11 : bA.tmps[11]?.getD undef = .slice (some ⟨g, 0, none⟩) n cO := hb 11
            refine phf_run (.slice (some ⟨g, 0, none⟩) n cO) rfl ?_ rfl
            clear hb hdep hdap hold
            go_simp
          · intro x w1 bA hbel hdep hdap hold hb
            refine ⟨fun _ => ?_, fun h => absurd h (by decide)⟩
            have e10 : bA.tmps[10]?.getD undef = .int .i64 (m : Int) := hb 10
            refine phf_run (.int .i64 (m : Int)) rfl ?_ rfl
            clear hb hdep hdap hold
            go_simp
          · intro x w1 bA hbel hdep hdap hold hb
            refine ⟨fun _ => ?_, fun h => absurd h (by decide)⟩
            have e45 : bA.tmps[45]?.getD undef = .slice (some ⟨g, 0, none⟩) n cO := (hb 45).trans (hdep 2 (by decide))
            have e46 : bA.tmps[46]?.getD undef = .int .i64 (m : Int) := (hb 46).trans (hdep 3 (by decide))
            refine phf_run (.pointer (some ⟨g, m * 2, none⟩)) rfl ?_ rfl
            clear hb hdep hdap hold
            go_simp
          · intro x w1 bA hbel hdep hdap hold hb
            refine ⟨fun _ => ?_, fun h => absurd h (by decide)⟩
            have e47 : bA.tmps[47]?.getD undef = .pointer (some ⟨g, m * 2, none⟩) := (hb 47).trans (hdep 4 (by decide))
            obtain ⟨g1, hg1, q1, q2, cc0, cc1, q3, q4, q5⟩ := HO.out w1 hbel
            clear q1 q2 q3 q4 q5
            injection hg1 with hg1
            injection hg1 with hg1
            subst hg1
            rw [HM2.out] at cc0 cc1
            refine phf_run (.agg #[.int .i64 (nh y2), .int .i64 (nl y2)]) rfl ?_ rfl
            clear hb hdep hdap hold
            go_simp
          · intro x w1 bA hbel hdep hdap hold hb
            refine ⟨fun _ => ?_, fun h => absurd h (by decide)⟩
            have e7 : bA.tmps[7]?.getD undef = .pointer (some ⟨w.heap.size, 0, none⟩) := hb 7
            have cc0 := (HQ4.out.below hbel HQ4.out.lt).cell 0
            have cc1 := (HQ4.out.below hbel HQ4.out.lt).cell 1
            refine phf_run (.agg #[.int .i64 (nh X), .int .i64 (nl X)]) rfl ?_ rfl
            clear hb hdep hdap hold
            go_simp
          · intro x w1 bA hbel hdep hdap hold hb
            refine ⟨fun _ => ?_, fun h => absurd h (by decide)⟩
            have e48 : bA.tmps[48]?.getD undef = .agg #[.int .i64 (nh y2), .int .i64 (nl y2)] := (hb 48).trans (hdep 5 (by decide))
            have e49 : bA.tmps[49]?.getD undef = .agg #[.int .i64 (nh X), .int .i64 (nl X)] := (hb 49).trans (hdep 6 (by decide))
            refine phf_call ?_ ((rplus_any y2 X w1 (by have := HYB.out; omega) (by have := HX.out; omega)).mono fun e w' h => ⟨_, h.1, h.2, rfl, fun e => Bool.noConfusion e⟩)
            clear hb hdep hdap hold
            go_simp
          · intro x w1 bA hbel hdep hdap hold hb
            refine ⟨fun _ => ?_, fun h => absurd h (by decide)⟩
            have e43 : bA.tmps[43]?.getD undef = .slice (some ⟨g, 0, none⟩) n cO := (hb 43).trans (hdep 0 (by decide))
            have e44 : bA.tmps[44]?.getD undef = .int .i64 (m : Int) := (hb 44).trans (hdep 1 (by decide))
            refine phf_run (.pointer (some ⟨g, m * 2, none⟩)) rfl ?_ rfl
            clear hb hdep hdap hold
            go_simp
          · intro x w1 bA hbel hdep hdap hold hb
            refine ⟨fun h => absurd h (by decide), fun _ hall => ?_⟩
            have e50 : bA.tmps[50]?.getD undef = .agg #[.int .i64 (nh (y2 + X)), .int .i64 (nl (y2 + X))] := (hb 50).trans (hdep 7 (by decide))
            have e51 : bA.tmps[51]?.getD undef = .pointer (some ⟨g, m * 2, none⟩) := (hb 51).trans (hdep 8 (by decide))
            clear hb hdep hdap hold
            obtain ⟨g1, hg1, q1, q2, cc0, cc1, f0, f1, hst⟩ := HO.out w1 hbel
            clear q1 q2
            injection hg1 with hg1
            injection hg1 with hg1
            subst hg1
            have HST := Lib.hid (hst (y2 + X))
            have HBL := Lib.hid hbel
            clear hst hbel
            refine phs_store (x := x) (n := 9) (R := fun _ W => OwnA 114 2 ew w3.heap.size W (.slice (some ⟨g, 0, none⟩) n cO) (LY.set m (y2 + X)) ∧ Below w3.heap.size w3 W) ((w1.setCell ⟨g, m * 2, none⟩ (.int .i64 (nh (y2 + X)))).setCell ⟨g, m * 2 + 1, none⟩ (.int .i64 (nl (y2 + X)))) ?_ rfl (fun _ => ⟨HST.out, ((HB4.out.trans (HBL.out.mono HB4.out.size)).setCell (p := ⟨g, m * 2, none⟩) HGB.out _).setCell (p := ⟨g, m * 2 + 1, none⟩) HGB.out _⟩)
            go_simp
          intro x w1 hR
          simp only [putAll, dstOf, Act.put, List.map_cons, List.map_nil, List.setIfInBounds_toArray, List.set_cons_succ, List.set_cons_zero, Nat.reduceAdd]
          have HR := Lib.hid hR
          clear hR
          go_wp2_with fail
          go_ret2
          exact ⟨_, _, rfl, ⟨by rw [HK1.out]; exact HSX.out _ HR.out.2, by rw [HK2.out]; exact HR.out.1.sl⟩, HB.out.trans (HR.out.2.mono HB.out.size)⟩
        · have hgt : ex < L[m].1 := by omega
          have HK := Lib.hid (insL_new (L := L) (x := ex) (X := X) (i := m) (by have := HN.out; omega) (fun j hj h => HP.out j hj h) (fun hi => by exact hgt))
          have hgt2 : ex < L[m].1 := by omega
          generalize L[m].1 = y at *
          have zy : (y == ex) = false := by rw [beq_eq_false_iff_ne]; omega
          clear heq
          go_upto_region 8 with fail
          obtain ⟨AX, hAX⟩ : ∃ a : Option Addr, a = some ⟨b, o, none⟩ := ⟨_, rfl⟩
          rw [← hAX] at HS3 ⊢
          clear hAX
          obtain ⟨AU, hAU⟩ : ∃ AU, (if c = m then (AX : Option Addr) else Option.map (fun x : Addr => x.add m) AX) = AU := ⟨_, rfl⟩
          obtain ⟨AV, hAV⟩ : ∃ AU, (if c2 = m then A2 else Option.map (fun x : Addr => x.add (m * 2)) A2) = AU := ⟨_, rfl⟩
          have HL1 := Lib.hid (fun W (hb : Below w3.heap.size w3 W) => (show SlA ei W (.slice AX m c) ((L.map (fun t : Int × Int => t.1)).take m) from by
            have := (HS3.out W hb).1.sub (sz := 1) (fun x => rfl) (by omega) (lo := 0) (hi := m) (Nat.zero_le _) (by rw [List.length_map]; have := HN.out; omega) c (by omega) AX (fun _ => by cases AX <;> simp [Addr.add])
            simpa using this))
          have HL2 := Lib.hid (fun W (hb : Below w3.heap.size w3 W) => (show SlA ei W (.slice AU (n - m) (c - m)) ((L.map (fun t : Int × Int => t.1)).drop m) from by
            have := (HS3.out W hb).1.sub (sz := 1) (fun x => rfl) (by omega) (lo := m) (hi := n) (by omega) (by rw [List.length_map]; have := HN.out; omega) (c - m) (by omega) AU (fun h => by rw [← hAU, if_neg (by omega), Nat.mul_one])
            rw [List.take_of_length_le (by rw [List.length_map]; have := HN.out; omega)] at this
            exact this))
          have HL3 := Lib.hid (fun W (hb : Below w3.heap.size w3 W) => (show SlA ew W (.slice A2 m c2) ((L.map (fun t : Int × Int => t.2)).take m) from by
            have := (HS3.out W hb).2.sub (sz := 2) (fun x => rfl) (by omega) (lo := 0) (hi := m) (Nat.zero_le _) (by rw [List.length_map]; have := HN.out; omega) c2 (by omega) A2 (fun _ => by cases A2 <;> simp [Addr.add])
            simpa using this))
          have HL4 := Lib.hid (fun W (hb : Below w3.heap.size w3 W) => (show SlA ew W (.slice AV (n - m) (c2 - m)) ((L.map (fun t : Int × Int => t.2)).drop m) from by
            have := (HS3.out W hb).2.sub (sz := 2) (fun x => rfl) (by omega) (lo := m) (hi := n) (by omega) (by rw [List.length_map]; have := HN.out; omega) (c2 - m) (by omega) AV (fun h => by rw [← hAV, if_neg (by omega)])
            rw [List.take_of_length_le (by rw [List.length_map]; have := HN.out; omega)] at this
            exact this))
          have HLL := Lib.hid (show (L.map (fun t : Int × Int => t.1)).length = n ∧ (L.map (fun t : Int × Int => t.2)).length = n from ⟨by rw [List.length_map]; exact HN.out.symm, by rw [List.length_map]; exact HN.out.symm⟩)
          have HK1 := Lib.hid (show (insL L ex X).map (fun t : Int × Int => t.1) = [] ++ (L.map (fun t : Int × Int => t.1)).take m ++ [ex] ++ (L.map (fun t : Int × Int => t.1)).drop m from by rw [HK.out]; simp)
          have HK2 := Lib.hid (show (insL L ex X).map (fun t : Int × Int => t.2) = [] ++ (L.map (fun t : Int × Int => t.2)).take m ++ [X] ++ (L.map (fun t : Int × Int => t.2)).drop m from by rw [HK.out]; simp)
          generalize L.map (fun t : Int × Int => t.1) = LX at *
          generalize L.map (fun t : Int × Int => t.2) = LY at *
          clear HK HP
          have z1 : (m : Int) ≤ (n : Int) := by omega
          have z2 : (n : Int) ≤ (c : Int) := by omega
          have z3 : (m : Int) ≤ (c : Int) := by omega
          have z4 : (n : Int) ≤ (c2 : Int) := by omega
          have z5 : (m : Int) ≤ (c2 : Int) := by omega
          go_cut [12] (fun s12 wx => SlA ei wx s12 (LX.take m ++ [ex] ++ LX.drop m) ∧ Below w3.heap.size w3 wx)
          case first =>
            refine wp_region_factsU (by kernel_rfl) (by kernel_rfl) (by kernel_rfl) (by kernel_rfl) (by kernel_rfl) (ChA 3 1 ei w3.heap.size w3 (fun i => ([none, some (.slice AX n c), some (.int .i64 (m : Int)), some (.slice AX m c), none, some (.int .i64 ex), none, none, some (.slice AX n c), some (.int .i64 (m : Int)), some (.slice AU (n - m) (c - m)), none, none] : List (Option Value)).getD i none) [(0, 4, []), (4, 7, [] ++ LX.take m), (7, 11, [] ++ LX.take m ++ [ex]), (11, 12, [] ++ LX.take m ++ [ex] ++ LX.drop m)] 6 7 12 ([] ++ LX.take m ++ [ex] ++ LX.drop m) ([ex])) ?_ ⟨?_, ?_, ?_, ?_, ?_, ?_, ?_, ?_, ?_, ?_, ?_, ?_, ?_, trivial⟩ ?_
            · exact fun x => ⟨(Below.refl _ _).drew, Nat.le_refl _, fun i v _ h => Bool.noConfusion h, fun s _ h => Bool.noConfusion h, fun h => Bool.noConfusion h, fun h => Bool.noConfusion h⟩
            · intro D x w1 bA hI hD hdep hcl hb
              have hq0 : D 0 = false := hD
              have hq4 : D 4 = false := by cases h : D 4 with | false => rfl | true => (have := hcl 4 h 0 (by decide); rw [hq0] at this; cases this)
              have hq7 : D 7 = false := by cases h : D 7 with | false => rfl | true => (have := hcl 7 h 4 (by decide); rw [hq4] at this; cases this)
              have hq11 : D 11 = false := by cases h : D 11 with | false => rfl | true => (have := hcl 11 h 7 (by decide); rw [hq7] at this; cases this)
              have hq12 : D 12 = false := by cases h : D 12 with | false => rfl | true => (have := hcl 12 h 11 (by decide); rw [hq11] at this; cases this)
              refine wp_of_run (.slice (some ⟨w1.heap.size, 0, none⟩) 0 0) (w' := w1.alloc (.cells #[] 3)) ?_ (hI.stage (i := 0) (n := 4) (L := []) (by simp) (fun s hs h => by simp only [List.mem_cons, List.not_mem_nil, or_false] at hs; rcases hs with rfl | rfl | rfl | rfl <;> first | rfl | cases h) (fun s hs hne hd => by
                simp only [List.mem_cons, List.not_mem_nil, or_false] at hs
                rcases hs with rfl | rfl | rfl | rfl
                · exact absurd rfl hne
                · exact absurd hd (by rw [hq4]; decide)
                · exact absurd hd (by rw [hq7]; decide)
                · exact absurd hd (by rw [hq11]; decide)) rfl (by decide) (by decide) hq12 ((Below.refl _ _).alloc hI.siz _) (OwnA.emptyAt hI.siz (heap_alloc_new w1 _)) (fun d1 _ d3 => ⟨(hI.lit d1 d3).1.alloc _, fun k hk e => by have e2 : w1.heap.size = k := Option.some.inj e; have := (hI.lit d1 d3).1.lt k hk; omega⟩))
              clear hb hI hdep hcl
              go_simp
            · intro D x w1 bA hI hD hdep hcl hb
              have e0 : bA.tmps[0]?.getD undef = .slice AX n c := hb 0
              refine wp_of_run (.slice AX n c) (w' := w1) ?_ (hI.val rfl (by simp) (by decide) (by decide) (by decide))
              clear hb hI hdep hcl
              go_simp
            · intro D x w1 bA hI hD hdep hcl hb
              have e10 : bA.tmps[10]?.getD undef = .int .i64 (m : Int) := hb 10
              refine wp_of_run (.int .i64 (m : Int)) (w' := w1) ?_ (hI.val rfl (by simp) (by decide) (by decide) (by decide))
              clear hb hI hdep hcl
              go_simp
            · intro D x w1 bA hI hD hdep hcl hb
              have e55 : bA.tmps[55]?.getD undef = .slice AX n c := (hb 55).trans (hI.kn 1 _ rfl (hdep 1 (by decide)))
              have e56 : bA.tmps[56]?.getD undef = .int .i64 (m : Int) := (hb 56).trans (hI.kn 2 _ rfl (hdep 2 (by decide)))
              refine wp_of_run (.slice AX m c) (w' := w1) ?_ (hI.val rfl (by simp) (by decide) (by decide) (by decide))
              clear hb hI hdep hcl
              go_simp
            · intro D x w1 bA hI hD hdep hcl hb
              have hp0 : D 0 = true := hdep 0 (by decide)
              have hq4 : D 4 = false := hD
              have hq7 : D 7 = false := by cases h : D 7 with | false => rfl | true => (have := hcl 7 h 4 (by decide); rw [hq4] at this; cases this)
              have hq11 : D 11 = false := by cases h : D 11 with | false => rfl | true => (have := hcl 11 h 7 (by decide); rw [hq7] at this; cases this)
              have hq12 : D 12 = false := by cases h : D 12 with | false => rfl | true => (have := hcl 12 h 11 (by decide); rw [hq11] at this; cases this)
              have ee1 : bA.tmps[54]?.getD undef = x 0 := hb 54
              have ee2 : bA.tmps[57]?.getD undef = .slice AX m c := (hb 57).trans (hI.kn 3 _ rfl (hdep 3 (by decide)))
              exact hI.app elI (.tmp 54) (.tmp 57) 22 22 rfl Tryd.underlying22 Tryd.underlying22 (r := 0) (i := 4) (n := 7) (L := []) (ys := LX.take m) (by simp) (by simp) (fun s hs h => by simp only [List.mem_cons, List.not_mem_nil, or_false] at hs; rcases hs with rfl | rfl | rfl | rfl <;> first | rfl | cases h) (fun s hs hne hd => by
                simp only [List.mem_cons, List.not_mem_nil, or_false] at hs
                rcases hs with rfl | rfl | rfl | rfl
                · exact .inl rfl
                · exact absurd rfl hne
                · exact absurd hd (by rw [hq7]; decide)
                · exact absurd hd (by rw [hq11]; decide)) rfl (by decide) (by decide) hq12 hp0 hD (by simpa [Act.eval] using ee1) (by simpa [Act.eval] using ee2) (HL1.out _ hI.bel) (by simp only [List.length_append, List.length_nil, List.length_cons, List.length_take, List.length_drop]; have := HLL.out; omega)
            · intro D x w1 bA hI hD hdep hcl hb
              have e2 : bA.tmps[2]?.getD undef = .int .i64 ex := hb 2
              refine wp_of_run (.int .i64 ex) (w' := w1) ?_ (hI.val rfl (by simp) (by decide) (by decide) (by decide))
              clear hb hI hdep hcl
              go_simp
            · intro D x w1 bA hI hD hdep hcl hb
              have e59 : bA.tmps[59]?.getD undef = .int .i64 ex := (hb 59).trans (hI.kn 5 _ rfl (hdep 5 (by decide)))
              refine wp_of_run (.slice (some ⟨w1.heap.size, 0, none⟩) 1 1) (w' := w1.alloc (.cells #[.int .i64 ex] 3)) ?_ (hI.call (by simp) rfl (by decide) ((Below.refl _ _).alloc (Nat.le_refl _) _) (OwnA.lit (xs := [ex]) (fun y _ => elI.len y) (Nat.le_refl _) (by simp) (by simp)))
              clear hb hI hdep hcl
              go_simp
            · intro D x w1 bA hI hD hdep hcl hb
              have hp4 : D 4 = true := hdep 4 (by decide)
              have hp0 : D 0 = true := hcl 4 hp4 0 (by decide)
              have hq7 : D 7 = false := hD
              have hq11 : D 11 = false := by cases h : D 11 with | false => rfl | true => (have := hcl 11 h 7 (by decide); rw [hq7] at this; cases this)
              have hq12 : D 12 = false := by cases h : D 12 with | false => rfl | true => (have := hcl 12 h 11 (by decide); rw [hq11] at this; cases this)
              have hiv := hI.lit (hdep 6 (by decide)) hD
              have ee1 : bA.tmps[58]?.getD undef = x 4 := hb 58
              have ee2 : bA.tmps[60]?.getD undef = x 6 := hb 60
              exact hI.app elI (.tmp 58) (.tmp 60) 22 22 rfl Tryd.underlying22 Tryd.underlying22 (r := 4) (i := 7) (n := 11) (L := [] ++ LX.take m) (ys := [ex]) (by simp) (by simp) (fun s hs h => by simp only [List.mem_cons, List.not_mem_nil, or_false] at hs; rcases hs with rfl | rfl | rfl | rfl <;> first | rfl | cases h) (fun s hs hne hd => by
                simp only [List.mem_cons, List.not_mem_nil, or_false] at hs
                rcases hs with rfl | rfl | rfl | rfl
                · exact .inr hp4
                · exact .inl rfl
                · exact absurd rfl hne
                · exact absurd hd (by rw [hq11]; decide)) rfl (by decide) (by decide) hq12 hp4 hD (by simpa [Act.eval] using ee1) (by simpa [Act.eval] using ee2) hiv.1.sl (by simp only [List.length_append, List.length_nil, List.length_cons, List.length_take, List.length_drop]; have := HLL.out; omega)
            · intro D x w1 bA hI hD hdep hcl hb
              have e0 : bA.tmps[0]?.getD undef = .slice AX n c := hb 0
              refine wp_of_run (.slice AX n c) (w' := w1) ?_ (hI.val rfl (by simp) (by decide) (by decide) (by decide))
              clear hb hI hdep hcl
              go_simp
            · intro D x w1 bA hI hD hdep hcl hb
              have e10 : bA.tmps[10]?.getD undef = .int .i64 (m : Int) := hb 10
              refine wp_of_run (.int .i64 (m : Int)) (w' := w1) ?_ (hI.val rfl (by simp) (by decide) (by decide) (by decide))
              clear hb hI hdep hcl
              go_simp
            · intro D x w1 bA hI hD hdep hcl hb
              have e62 : bA.tmps[62]?.getD undef = .slice AX n c := (hb 62).trans (hI.kn 8 _ rfl (hdep 8 (by decide)))
              have e63 : bA.tmps[63]?.getD undef = .int .i64 (m : Int) := (hb 63).trans (hI.kn 9 _ rfl (hdep 9 (by decide)))
              refine wp_of_run (.slice AU (n - m) (c - m)) (w' := w1) ?_ (hI.val rfl (by simp) (by decide) (by decide) (by decide))
              clear hb hI hdep hcl
              go_simp
            · intro D x w1 bA hI hD hdep hcl hb
              have hp7 : D 7 = true := hdep 7 (by decide)
              have hp4 : D 4 = true := hcl 7 hp7 4 (by decide)
              have hp0 : D 0 = true := hcl 4 hp4 0 (by decide)
              have hq11 : D 11 = false := hD
              have hq12 : D 12 = false := by cases h : D 12 with | false => rfl | true => (have := hcl 12 h 11 (by decide); rw [hq11] at this; cases this)
              have ee1 : bA.tmps[61]?.getD undef = x 7 := hb 61
              have ee2 : bA.tmps[64]?.getD undef = .slice AU (n - m) (c - m) := (hb 64).trans (hI.kn 10 _ rfl (hdep 10 (by decide)))
              exact hI.app elI (.tmp 61) (.tmp 64) 22 22 rfl Tryd.underlying22 Tryd.underlying22 (r := 7) (i := 11) (n := 12) (L := [] ++ LX.take m ++ [ex]) (ys := LX.drop m) (by simp) (by simp) (fun s hs h => by simp only [List.mem_cons, List.not_mem_nil, or_false] at hs; rcases hs with rfl | rfl | rfl | rfl <;> first | rfl | cases h) (fun s hs hne hd => by
                simp only [List.mem_cons, List.not_mem_nil, or_false] at hs
                rcases hs with rfl | rfl | rfl | rfl
                · exact .inr hp4
                · exact .inr hp7
                · exact .inl rfl
                · exact absurd rfl hne) rfl (by decide) (by decide) hq12 hp7 hD (by simpa [Act.eval] using ee1) (by simpa [Act.eval] using ee2) (HL2.out _ hI.bel) (by simp only [List.length_append, List.length_nil, List.length_cons, List.length_take, List.length_drop]; have := HLL.out; omega)
            · intro D x w1 bA hI hD hdep hcl hb
              have hp := hdep 11 (by decide)
              refine wp_of_run (x 11) (w' := w1) ?_ (hI.last (g := 11) rfl (by simp) hp hD (by simp) rfl (by decide) (by decide))
              have e65 : bA.tmps[65]?.getD undef = x 11 := hb 65
              clear hb hI hdep hcl
              go_simp
            intro D x w1 hI hall
            have hfin := hI.fin (hall 12 (by simp))
            have hbelF := hI.bel
            have x1e : x 1 = .slice AX n c := hI.kn 1 _ rfl (hall 1 (by simp))
            have x2e : x 2 = .int .i64 (m : Int) := hI.kn 2 _ rfl (hall 2 (by simp))
            have x3e : x 3 = .slice AX m c := hI.kn 3 _ rfl (hall 3 (by simp))
            have x5e : x 5 = .int .i64 ex := hI.kn 5 _ rfl (hall 5 (by simp))
            have x8e : x 8 = .slice AX n c := hI.kn 8 _ rfl (hall 8 (by simp))
            have x9e : x 9 = .int .i64 (m : Int) := hI.kn 9 _ rfl (hall 9 (by simp))
            have x10e : x 10 = .slice AU (n - m) (c - m) := hI.kn 10 _ rfl (hall 10 (by simp))
            simp only [putAll, dstOf, Act.put, List.map_cons, List.map_nil, List.setIfInBounds_toArray, List.set_cons_succ, List.set_cons_zero, Nat.reduceAdd, x1e, x2e, x3e, x5e, x8e, x9e, x10e]
            clear x1e x2e x3e x5e x8e x9e x10e hI hall
            generalize x 12 = xF at hfin ⊢
            have hsl := hfin.sl
            clear hfin
            go_wp2_with fail
            go_meet
            exact ⟨hsl, hbelF⟩
          case rest =>
            obtain ⟨⟨A5, c5, rfl, hx5⟩, hb4⟩ := hcut
            have HSL := Lib.hid (show SlA ei wc (.slice A5 (LX.take m ++ [ex] ++ LX.drop m).length c5) (LX.take m ++ [ex] ++ LX.drop m) from ⟨A5, c5, rfl, hx5⟩)
            have HB4 := Lib.hid hb4
            have yq0 := (HQ.out.below hb4 HQ.out.lt).cell 0
            have yq1 := (HQ.out.below hb4 HQ.out.lt).cell 1
            have HQ4 := Lib.hid (HQ.out.below hb4 HQ.out.lt)
            obtain ⟨n5, hn5⟩ : ∃ z, z = (LX.take m ++ [ex] ++ LX.drop m).length := ⟨_, rfl⟩
            rw [← hn5] at HSL ⊢
            obtain ⟨w4, hw4⟩ : ∃ W, W = wc := ⟨_, rfl⟩
            rw [← hw4] at HSL HB4 HQ4 yq0 yq1 ⊢
            clear hx5 hb4 hn5 hw4
            go_upto_region 9 with fail
            go_cut [13] (fun s13 wx => SlA ew wx s13 (LY.take m ++ [X] ++ LY.drop m) ∧ Below w4.heap.size w4 wx)
            case first =>
              refine wp_region_factsU (by kernel_rfl) (by kernel_rfl) (by kernel_rfl) (by kernel_rfl) (by kernel_rfl) (ChA 114 2 ew w4.heap.size w4 (fun i => ([none, some (.slice A2 n c2), some (.int .i64 (m : Int)), some (.slice A2 m c2), none, some (.agg #[.int .i64 (nh X), .int .i64 (nl X)]), none, none, some (.slice A2 n c2), some (.int .i64 (m : Int)), some (.slice AV (n - m) (c2 - m)), none, none] : List (Option Value)).getD i none) [(0, 4, []), (4, 7, [] ++ LY.take m), (7, 11, [] ++ LY.take m ++ [X]), (11, 12, [] ++ LY.take m ++ [X] ++ LY.drop m)] 6 7 12 ([] ++ LY.take m ++ [X] ++ LY.drop m) ([X])) ?_ ⟨?_, ?_, ?_, ?_, ?_, ?_, ?_, ?_, ?_, ?_, ?_, ?_, ?_, trivial⟩ ?_
              · exact fun x => ⟨(Below.refl _ _).drew, Nat.le_refl _, fun i v _ h => Bool.noConfusion h, fun s _ h => Bool.noConfusion h, fun h => Bool.noConfusion h, fun h => Bool.noConfusion h⟩
              · intro D x w1 bA hI hD hdep hcl hb
                have hq0 : D 0 = false := hD
                have hq4 : D 4 = false := by cases h : D 4 with | false => rfl | true => (have := hcl 4 h 0 (by decide); rw [hq0] at this; cases this)
                have hq7 : D 7 = false := by cases h : D 7 with | false => rfl | true => (have := hcl 7 h 4 (by decide); rw [hq4] at this; cases this)
                have hq11 : D 11 = false := by cases h : D 11 with | false => rfl | true => (have := hcl 11 h 7 (by decide); rw [hq7] at this; cases this)
                have hq12 : D 12 = false := by cases h : D 12 with | false => rfl | true => (have := hcl 12 h 11 (by decide); rw [hq11] at this; cases this)
                refine wp_of_run (.slice (some ⟨w1.heap.size, 0, none⟩) 0 0) (w' := w1.alloc (.cells #[] 114)) ?_ (hI.stage (i := 0) (n := 4) (L := []) (by simp) (fun s hs h => by simp only [List.mem_cons, List.not_mem_nil, or_false] at hs; rcases hs with rfl | rfl | rfl | rfl <;> first | rfl | cases h) (fun s hs hne hd => by
                  simp only [List.mem_cons, List.not_mem_nil, or_false] at hs
                  rcases hs with rfl | rfl | rfl | rfl
                  · exact absurd rfl hne
                  · exact absurd hd (by rw [hq4]; decide)
                  · exact absurd hd (by rw [hq7]; decide)
                  · exact absurd hd (by rw [hq11]; decide)) rfl (by decide) (by decide) hq12 ((Below.refl _ _).alloc hI.siz _) (OwnA.emptyAt hI.siz (heap_alloc_new w1 _)) (fun d1 _ d3 => ⟨(hI.lit d1 d3).1.alloc _, fun k hk e => by have e2 : w1.heap.size = k := Option.some.inj e; have := (hI.lit d1 d3).1.lt k hk; omega⟩))
                clear hb hI hdep hcl
                go_simp
              · intro D x w1 bA hI hD hdep hcl hb
                have e1 : bA.tmps[1]?.getD undef = .slice A2 n c2 := hb 1
                refine wp_of_run (.slice A2 n c2) (w' := w1) ?_ (hI.val rfl (by simp) (by decide) (by decide) (by decide))
                clear hb hI hdep hcl
                go_simp
              · intro D x w1 bA hI hD hdep hcl hb
                have e10 : bA.tmps[10]?.getD undef = .int .i64 (m : Int) := hb 10
                refine wp_of_run (.int .i64 (m : Int)) (w' := w1) ?_ (hI.val rfl (by simp) (by decide) (by decide) (by decide))
                clear hb hI hdep hcl
                go_simp
              · intro D x w1 bA hI hD hdep hcl hb
                have e67 : bA.tmps[67]?.getD undef = .slice A2 n c2 := (hb 67).trans (hI.kn 1 _ rfl (hdep 1 (by decide)))
                have e68 : bA.tmps[68]?.getD undef = .int .i64 (m : Int) := (hb 68).trans (hI.kn 2 _ rfl (hdep 2 (by decide)))
                refine wp_of_run (.slice A2 m c2) (w' := w1) ?_ (hI.val rfl (by simp) (by decide) (by decide) (by decide))
                clear hb hI hdep hcl
                go_simp
              · intro D x w1 bA hI hD hdep hcl hb
                have hp0 : D 0 = true := hdep 0 (by decide)
                have hq4 : D 4 = false := hD
                have hq7 : D 7 = false := by cases h : D 7 with | false => rfl | true => (have := hcl 7 h 4 (by decide); rw [hq4] at this; cases this)
                have hq11 : D 11 = false := by cases h : D 11 with | false => rfl | true => (have := hcl 11 h 7 (by decide); rw [hq7] at this; cases this)
                have hq12 : D 12 = false := by cases h : D 12 with | false => rfl | true => (have := hcl 12 h 11 (by decide); rw [hq11] at this; cases this)
                have ee1 : bA.tmps[66]?.getD undef = x 0 := hb 66
                have ee2 : bA.tmps[69]?.getD undef = .slice A2 m c2 := (hb 69).trans (hI.kn 3 _ rfl (hdep 3 (by decide)))
                exact hI.app elW (.tmp 66) (.tmp 69) 110 110 rfl Tryd.underlying110 Tryd.underlying110 (r := 0) (i := 4) (n := 7) (L := []) (ys := LY.take m) (by simp) (by simp) (fun s hs h => by simp only [List.mem_cons, List.not_mem_nil, or_false] at hs; rcases hs with rfl | rfl | rfl | rfl <;> first | rfl | cases h) (fun s hs hne hd => by
                  simp only [List.mem_cons, List.not_mem_nil, or_false] at hs
                  rcases hs with rfl | rfl | rfl | rfl
                  · exact .inl rfl
                  · exact absurd rfl hne
                  · exact absurd hd (by rw [hq7]; decide)
                  · exact absurd hd (by rw [hq11]; decide)) rfl (by decide) (by decide) hq12 hp0 hD (by simpa [Act.eval] using ee1) (by simpa [Act.eval] using ee2) (HL3.out _ ((HB4.out).trans (hI.bel.mono HB4.out.size))) (by simp only [List.length_append, List.length_nil, List.length_cons, List.length_take, List.length_drop]; have := HLL.out; omega)
              · intro D x w1 bA hI hD hdep hcl hb
                have e7 : bA.tmps[7]?.getD undef = .pointer (some ⟨w.heap.size, 0, none⟩) := hb 7
                have yy0 := (HQ4.out.below hI.bel HQ4.out.lt).cell 0
                have yy1 := (HQ4.out.below hI.bel HQ4.out.lt).cell 1
                refine wp_of_run (.agg #[.int .i64 (nh X), .int .i64 (nl X)]) (w' := w1) ?_ (hI.val rfl (by simp) (by decide) (by decide) (by decide))
                clear hb hI hdep hcl
                go_simp
              · intro D x w1 bA hI hD hdep hcl hb
                have e71 : bA.tmps[71]?.getD undef = .agg #[.int .i64 (nh X), .int .i64 (nl X)] := (hb 71).trans (hI.kn 5 _ rfl (hdep 5 (by decide)))
                refine wp_of_run (.slice (some ⟨w1.heap.size, 0, none⟩) 1 1) (w' := w1.alloc (.cells #[.int .i64 (nh X), .int .i64 (nl X)] 114)) ?_ (hI.call (by simp) rfl (by decide) ((Below.refl _ _).alloc (Nat.le_refl _) _) (OwnA.lit (xs := [X]) (fun y _ => elW.len y) (Nat.le_refl _) (by simp) (by simp)))
                clear hb hI hdep hcl
                go_simp
              · intro D x w1 bA hI hD hdep hcl hb
                have hp4 : D 4 = true := hdep 4 (by decide)
                have hp0 : D 0 = true := hcl 4 hp4 0 (by decide)
                have hq7 : D 7 = false := hD
                have hq11 : D 11 = false := by cases h : D 11 with | false => rfl | true => (have := hcl 11 h 7 (by decide); rw [hq7] at this; cases this)
                have hq12 : D 12 = false := by cases h : D 12 with | false => rfl | true => (have := hcl 12 h 11 (by decide); rw [hq11] at this; cases this)
                have hiv := hI.lit (hdep 6 (by decide)) hD
                have ee1 : bA.tmps[70]?.getD undef = x 4 := hb 70
                have ee2 : bA.tmps[72]?.getD undef = x 6 := hb 72
                exact hI.app elW (.tmp 70) (.tmp 72) 110 110 rfl Tryd.underlying110 Tryd.underlying110 (r := 4) (i := 7) (n := 11) (L := [] ++ LY.take m) (ys := [X]) (by simp) (by simp) (fun s hs h => by simp only [List.mem_cons, List.not_mem_nil, or_false] at hs; rcases hs with rfl | rfl | rfl | rfl <;> first | rfl | cases h) (fun s hs hne hd => by
                  simp only [List.mem_cons, List.not_mem_nil, or_false] at hs
                  rcases hs with rfl | rfl | rfl | rfl
                  · exact .inr hp4
                  · exact .inl rfl
                  · exact absurd rfl hne
                  · exact absurd hd (by rw [hq11]; decide)) rfl (by decide) (by decide) hq12 hp4 hD (by simpa [Act.eval] using ee1) (by simpa [Act.eval] using ee2) hiv.1.sl (by simp only [List.length_append, List.length_nil, List.length_cons, List.length_take, List.length_drop]; have := HLL.out; omega)
              · intro D x w1 bA hI hD hdep hcl hb
                have e1 : bA.tmps[1]?.getD undef = .slice A2 n c2 := hb 1
                refine wp_of_run (.slice A2 n c2) (w' := w1) ?_ (hI.val rfl (by simp) (by decide) (by decide) (by decide))
                clear hb hI hdep hcl
                go_simp
              · intro D x w1 bA hI hD hdep hcl hb
                have e10 : bA.tmps[10]?.getD undef = .int .i64 (m : Int) := hb 10
                refine wp_of_run (.int .i64 (m : Int)) (w' := w1) ?_ (hI.val rfl (by simp) (by decide) (by decide) (by decide))
                clear hb hI hdep hcl
                go_simp
              · intro D x w1 bA hI hD hdep hcl hb
                have e74 : bA.tmps[74]?.getD undef = .slice A2 n c2 := (hb 74).trans (hI.kn 8 _ rfl (hdep 8 (by decide)))
                have e75 : bA.tmps[75]?.getD undef = .int .i64 (m : Int) := (hb 75).trans (hI.kn 9 _ rfl (hdep 9 (by decide)))
                refine wp_of_run (.slice AV (n - m) (c2 - m)) (w' := w1) ?_ (hI.val rfl (by simp) (by decide) (by decide) (by decide))
                clear hb hI hdep hcl
                go_simp
              · intro D x w1 bA hI hD hdep hcl hb
                have hp7 : D 7 = true := hdep 7 (by decide)
                have hp4 : D 4 = true := hcl 7 hp7 4 (by decide)
                have hp0 : D 0 = true := hcl 4 hp4 0 (by decide)
                have hq11 : D 11 = false := hD
                have hq12 : D 12 = false := by cases h : D 12 with | false => rfl | true => (have := hcl 12 h 11 (by decide); rw [hq11] at this; cases this)
                have ee1 : bA.tmps[73]?.getD undef = x 7 := hb 73
                have ee2 : bA.tmps[76]?.getD undef = .slice AV (n - m) (c2 - m) := (hb 76).trans (hI.kn 10 _ rfl (hdep 10 (by decide)))
                exact hI.app elW (.tmp 73) (.tmp 76) 110 110 rfl Tryd.underlying110 Tryd.underlying110 (r := 7) (i := 11) (n := 12) (L := [] ++ LY.take m ++ [X]) (ys := LY.drop m) (by simp) (by simp) (fun s hs h => by simp only [List.mem_cons, List.not_mem_nil, or_false] at hs; rcases hs with rfl | rfl | rfl | rfl <;> first | rfl | cases h) (fun s hs hne hd => by
                  simp only [List.mem_cons, List.not_mem_nil, or_false] at hs
                  rcases hs with rfl | rfl | rfl | rfl
                  · exact .inr hp4
                  · exact .inr hp7
                  · exact .inl rfl
                  · exact absurd rfl hne) rfl (by decide) (by decide) hq12 hp7 hD (by simpa [Act.eval] using ee1) (by simpa [Act.eval] using ee2) (HL4.out _ ((HB4.out).trans (hI.bel.mono HB4.out.size))) (by simp only [List.length_append, List.length_nil, List.length_cons, List.length_take, List.length_drop]; have := HLL.out; omega)
              · intro D x w1 bA hI hD hdep hcl hb
                have hp := hdep 11 (by decide)
                refine wp_of_run (x 11) (w' := w1) ?_ (hI.last (g := 11) rfl (by simp) hp hD (by simp) rfl (by decide) (by decide))
                have e77 : bA.tmps[77]?.getD undef = x 11 := hb 77
                clear hb hI hdep hcl
                go_simp
              intro D x w1 hI hall
              have hfin := hI.fin (hall 12 (by simp))
              have hbelF := hI.bel
              have x1e : x 1 = .slice A2 n c2 := hI.kn 1 _ rfl (hall 1 (by simp))
              have x2e : x 2 = .int .i64 (m : Int) := hI.kn 2 _ rfl (hall 2 (by simp))
              have x3e : x 3 = .slice A2 m c2 := hI.kn 3 _ rfl (hall 3 (by simp))
              have x5e : x 5 = .agg #[.int .i64 (nh X), .int .i64 (nl X)] := hI.kn 5 _ rfl (hall 5 (by simp))
              have x8e : x 8 = .slice A2 n c2 := hI.kn 8 _ rfl (hall 8 (by simp))
              have x9e : x 9 = .int .i64 (m : Int) := hI.kn 9 _ rfl (hall 9 (by simp))
              have x10e : x 10 = .slice AV (n - m) (c2 - m) := hI.kn 10 _ rfl (hall 10 (by simp))
              simp only [putAll, dstOf, Act.put, List.map_cons, List.map_nil, List.setIfInBounds_toArray, List.set_cons_succ, List.set_cons_zero, Nat.reduceAdd, x1e, x2e, x3e, x5e, x8e, x9e, x10e]
              clear x1e x2e x3e x5e x8e x9e x10e hI hall
              generalize x 12 = xF at hfin ⊢
              have hsl := hfin.sl
              clear hfin
              go_wp2_with fail
              go_meet
              exact ⟨hsl, hbelF⟩
            case rest =>
              obtain ⟨⟨A6, c6, rfl, hx6⟩, hb5⟩ := hcut
              have HSL2 := Lib.hid (show SlA ew wc (.slice A6 (LY.take m ++ [X] ++ LY.drop m).length c6) (LY.take m ++ [X] ++ LY.drop m) from ⟨A6, c6, rfl, hx6⟩)
              have HB5 := Lib.hid hb5
              obtain ⟨n6, hn6⟩ : ∃ z, z = (LY.take m ++ [X] ++ LY.drop m).length := ⟨_, rfl⟩
              rw [← hn6] at HSL2 ⊢
              clear hx6 hb5 hn6 yq0 yq1
              go_wp2_with fail
              go_ret2
              exact ⟨_, _, rfl, ⟨by rw [HK1.out, List.nil_append]; exact HSL.out.below HB5.out, by rw [HK2.out, List.nil_append]; exact HSL2.out⟩, HB.out.trans ((HB4.out.trans (HB5.out.mono HB4.out.size)).mono HB.out.size)⟩
    · skip
      have HK := Lib.hid (insL_new (L := L) (x := ex) (X := X) (i := m) (by have := HN.out; omega) (fun j hj h => HP.out j hj h) (fun hi => by exact absurd hi (by have := HN.out; omega)))
      have z0 : ¬ (m : Int) < (n : Int) := by omega
      clear hlt
      go_upto_region 8 with fail
      obtain ⟨AX, hAX⟩ : ∃ a : Option Addr, a = A := ⟨_, rfl⟩
      rw [← hAX] at HS3 ⊢
      clear hAX
      obtain ⟨AU, hAU⟩ : ∃ AU, (if c = m then (AX : Option Addr) else Option.map (fun x : Addr => x.add m) AX) = AU := ⟨_, rfl⟩
      obtain ⟨AV, hAV⟩ : ∃ AU, (if c2 = m then A2 else Option.map (fun x : Addr => x.add (m * 2)) A2) = AU := ⟨_, rfl⟩
      have HL1 := Lib.hid (fun W (hb : Below w3.heap.size w3 W) => (show SlA ei W (.slice AX m c) ((L.map (fun t : Int × Int => t.1)).take m) from by
        have := (HS3.out W hb).1.sub (sz := 1) (fun x => rfl) (by omega) (lo := 0) (hi := m) (Nat.zero_le _) (by rw [List.length_map]; have := HN.out; omega) c (by omega) AX (fun _ => by cases AX <;> simp [Addr.add])
        simpa using this))
      have HL2 := Lib.hid (fun W (hb : Below w3.heap.size w3 W) => (show SlA ei W (.slice AU (n - m) (c - m)) ((L.map (fun t : Int × Int => t.1)).drop m) from by
        have := (HS3.out W hb).1.sub (sz := 1) (fun x => rfl) (by omega) (lo := m) (hi := n) (by omega) (by rw [List.length_map]; have := HN.out; omega) (c - m) (by omega) AU (fun h => by rw [← hAU, if_neg (by omega), Nat.mul_one])
        rw [List.take_of_length_le (by rw [List.length_map]; have := HN.out; omega)] at this
        exact this))
      have HL3 := Lib.hid (fun W (hb : Below w3.heap.size w3 W) => (show SlA ew W (.slice A2 m c2) ((L.map (fun t : Int × Int => t.2)).take m) from by
        have := (HS3.out W hb).2.sub (sz := 2) (fun x => rfl) (by omega) (lo := 0) (hi := m) (Nat.zero_le _) (by rw [List.length_map]; have := HN.out; omega) c2 (by omega) A2 (fun _ => by cases A2 <;> simp [Addr.add])
        simpa using this))
      have HL4 := Lib.hid (fun W (hb : Below w3.heap.size w3 W) => (show SlA ew W (.slice AV (n - m) (c2 - m)) ((L.map (fun t : Int × Int => t.2)).drop m) from by
        have := (HS3.out W hb).2.sub (sz := 2) (fun x => rfl) (by omega) (lo := m) (hi := n) (by omega) (by rw [List.length_map]; have := HN.out; omega) (c2 - m) (by omega) AV (fun h => by rw [← hAV, if_neg (by omega)])
        rw [List.take_of_length_le (by rw [List.length_map]; have := HN.out; omega)] at this
        exact this))
      have HLL := Lib.hid (show (L.map (fun t : Int × Int => t.1)).length = n ∧ (L.map (fun t : Int × Int => t.2)).length = n from ⟨by rw [List.length_map]; exact HN.out.symm, by rw [List.length_map]; exact HN.out.symm⟩)
      have HK1 := Lib.hid (show (insL L ex X).map (fun t : Int × Int => t.1) = [] ++ (L.map (fun t : Int × Int => t.1)).take m ++ [ex] ++ (L.map (fun t : Int × Int => t.1)).drop m from by rw [HK.out]; simp)
      have HK2 := Lib.hid (show (insL L ex X).map (fun t : Int × Int => t.2) = [] ++ (L.map (fun t : Int × Int => t.2)).take m ++ [X] ++ (L.map (fun t : Int × Int => t.2)).drop m from by rw [HK.out]; simp)
      generalize L.map (fun t : Int × Int => t.1) = LX at *
      generalize L.map (fun t : Int × Int => t.2) = LY at *
      clear HK HP
      have z1 : (m : Int) ≤ (n : Int) := by omega
      have z2 : (n : Int) ≤ (c : Int) := by omega
      have z3 : (m : Int) ≤ (c : Int) := by omega
      have z4 : (n : Int) ≤ (c2 : Int) := by omega
      have z5 : (m : Int) ≤ (c2 : Int) := by omega
      go_cut [12] (fun s12 wx => SlA ei wx s12 (LX.take m ++ [ex] ++ LX.drop m) ∧ Below w3.heap.size w3 wx)
      case first =>
        refine wp_region_factsU (by kernel_rfl) (by kernel_rfl) (by kernel_rfl) (by kernel_rfl) (by kernel_rfl) (ChA 3 1 ei w3.heap.size w3 (fun i => ([none, some (.slice AX n c), some (.int .i64 (m : Int)), some (.slice AX m c), none, some (.int .i64 ex), none, none, some (.slice AX n c), some (.int .i64 (m : Int)), some (.slice AU (n - m) (c - m)), none, none] : List (Option Value)).getD i none) [(0, 4, []), (4, 7, [] ++ LX.take m), (7, 11, [] ++ LX.take m ++ [ex]), (11, 12, [] ++ LX.take m ++ [ex] ++ LX.drop m)] 6 7 12 ([] ++ LX.take m ++ [ex] ++ LX.drop m) ([ex])) ?_ ⟨?_, ?_, ?_, ?_, ?_, ?_, ?_, ?_, ?_, ?_, ?_, ?_, ?_, trivial⟩ ?_
        · exact fun x => ⟨(Below.refl _ _).drew, Nat.le_refl _, fun i v _ h => Bool.noConfusion h, fun s _ h => Bool.noConfusion h, fun h => Bool.noConfusion h, fun h => Bool.noConfusion h⟩
        · intro D x w1 bA hI hD hdep hcl hb
          have hq0 : D 0 = false := hD
          have hq4 : D 4 = false := by cases h : D 4 with | false => rfl | true => (have := hcl 4 h 0 (by decide); rw [hq0] at this; cases this)
          have hq7 : D 7 = false := by cases h : D 7 with | false => rfl | true => (have := hcl 7 h 4 (by decide); rw [hq4] at this; cases this)
          have hq11 : D 11 = false := by cases h : D 11 with | false => rfl | true => (have := hcl 11 h 7 (by decide); rw [hq7] at this; cases this)
          have hq12 : D 12 = false := by cases h : D 12 with | false => rfl | true => (have := hcl 12 h 11 (by decide); rw [hq11] at this; cases this)
          refine wp_of_run (.slice (some ⟨w1.heap.size, 0, none⟩) 0 0) (w' := w1.alloc (.cells #[] 3)) ?_ (hI.stage (i := 0) (n := 4) (L := []) (by simp) (fun s hs h => by simp only [List.mem_cons, List.not_mem_nil, or_false] at hs; rcases hs with rfl | rfl | rfl | rfl <;> first | rfl | cases h) (fun s hs hne hd => by
            simp only [List.mem_cons, List.not_mem_nil, or_false] at hs
            rcases hs with rfl | rfl | rfl | rfl
            · exact absurd rfl hne
            · exact absurd hd (by rw [hq4]; decide)
            · exact absurd hd (by rw [hq7]; decide)
            · exact absurd hd (by rw [hq11]; decide)) rfl (by decide) (by decide) hq12 ((Below.refl _ _).alloc hI.siz _) (OwnA.emptyAt hI.siz (heap_alloc_new w1 _)) (fun d1 _ d3 => ⟨(hI.lit d1 d3).1.alloc _, fun k hk e => by have e2 : w1.heap.size = k := Option.some.inj e; have := (hI.lit d1 d3).1.lt k hk; omega⟩))
          clear hb hI hdep hcl
          go_simp
        · intro D x w1 bA hI hD hdep hcl hb
          have e0 : bA.tmps[0]?.getD undef = .slice AX n c := hb 0
          refine wp_of_run (.slice AX n c) (w' := w1) ?_ (hI.val rfl (by simp) (by decide) (by decide) (by decide))
          clear hb hI hdep hcl
          go_simp
        · intro D x w1 bA hI hD hdep hcl hb
          have e10 : bA.tmps[10]?.getD undef = .int .i64 (m : Int) := hb 10
          refine wp_of_run (.int .i64 (m : Int)) (w' := w1) ?_ (hI.val rfl (by simp) (by decide) (by decide) (by decide))
          clear hb hI hdep hcl
          go_simp
        · intro D x w1 bA hI hD hdep hcl hb
          have e55 : bA.tmps[55]?.getD undef = .slice AX n c := (hb 55).trans (hI.kn 1 _ rfl (hdep 1 (by decide)))
          have e56 : bA.tmps[56]?.getD undef = .int .i64 (m : Int) := (hb 56).trans (hI.kn 2 _ rfl (hdep 2 (by decide)))
          refine wp_of_run (.slice AX m c) (w' := w1) ?_ (hI.val rfl (by simp) (by decide) (by decide) (by decide))
          clear hb hI hdep hcl
          go_simp
        · intro D x w1 bA hI hD hdep hcl hb
          have hp0 : D 0 = true := hdep 0 (by decide)
          have hq4 : D 4 = false := hD
          have hq7 : D 7 = false := by cases h : D 7 with | false => rfl | true => (have := hcl 7 h 4 (by decide); rw [hq4] at this; cases this)
          have hq11 : D 11 = false := by cases h : D 11 with | false => rfl | true => (have := hcl 11 h 7 (by decide); rw [hq7] at this; cases this)
          have hq12 : D 12 = false := by cases h : D 12 with | false => rfl | true => (have := hcl 12 h 11 (by decide); rw [hq11] at this; cases this)
          have ee1 : bA.tmps[54]?.getD undef = x 0 := hb 54
          have ee2 : bA.tmps[57]?.getD undef = .slice AX m c := (hb 57).trans (hI.kn 3 _ rfl (hdep 3 (by decide)))
          exact hI.app elI (.tmp 54) (.tmp 57) 22 22 rfl Tryd.underlying22 Tryd.underlying22 (r := 0) (i := 4) (n := 7) (L := []) (ys := LX.take m) (by simp) (by simp) (fun s hs h => by simp only [List.mem_cons, List.not_mem_nil, or_false] at hs; rcases hs with rfl | rfl | rfl | rfl <;> first | rfl | cases h) (fun s hs hne hd => by
            simp only [List.mem_cons, List.not_mem_nil, or_false] at hs
            rcases hs with rfl | rfl | rfl | rfl
            · exact .inl rfl
            · exact absurd rfl hne
            · exact absurd hd (by rw [hq7]; decide)
            · exact absurd hd (by rw [hq11]; decide)) rfl (by decide) (by decide) hq12 hp0 hD (by simpa [Act.eval] using ee1) (by simpa [Act.eval] using ee2) (HL1.out _ hI.bel) (by simp only [List.length_append, List.length_nil, List.length_cons, List.length_take, List.length_drop]; have := HLL.out; omega)
        · intro D x w1 bA hI hD hdep hcl hb
          have e2 : bA.tmps[2]?.getD undef = .int .i64 ex := hb 2
          refine wp_of_run (.int .i64 ex) (w' := w1) ?_ (hI.val rfl (by simp) (by decide) (by decide) (by decide))
          clear hb hI hdep hcl
          go_simp
        · intro D x w1 bA hI hD hdep hcl hb
          have e59 : bA.tmps[59]?.getD undef = .int .i64 ex := (hb 59).trans (hI.kn 5 _ rfl (hdep 5 (by decide)))
          refine wp_of_run (.slice (some ⟨w1.heap.size, 0, none⟩) 1 1) (w' := w1.alloc (.cells #[.int .i64 ex] 3)) ?_ (hI.call (by simp) rfl (by decide) ((Below.refl _ _).alloc (Nat.le_refl _) _) (OwnA.lit (xs := [ex]) (fun y _ => elI.len y) (Nat.le_refl _) (by simp) (by simp)))
          clear hb hI hdep hcl
          go_simp
        · intro D x w1 bA hI hD hdep hcl hb
          have hp4 : D 4 = true := hdep 4 (by decide)
          have hp0 : D 0 = true := hcl 4 hp4 0 (by decide)
          have hq7 : D 7 = false := hD
          have hq11 : D 11 = false := by cases h : D 11 with | false => rfl | true => (have := hcl 11 h 7 (by decide); rw [hq7] at this; cases this)
          have hq12 : D 12 = false := by cases h : D 12 with | false => rfl | true => (have := hcl 12 h 11 (by decide); rw [hq11] at this; cases this)
          have hiv := hI.lit (hdep 6 (by decide)) hD
          have ee1 : bA.tmps[58]?.getD undef = x 4 := hb 58
          have ee2 : bA.tmps[60]?.getD undef = x 6 := hb 60
          exact hI.app elI (.tmp 58) (.tmp 60) 22 22 rfl Tryd.underlying22 Tryd.underlying22 (r := 4) (i := 7) (n := 11) (L := [] ++ LX.take m) (ys := [ex]) (by simp) (by simp) (fun s hs h => by simp only [List.mem_cons, List.not_mem_nil, or_false] at hs; rcases hs with rfl | rfl | rfl | rfl <;> first | rfl | cases h) (fun s hs hne hd => by
            simp only [List.mem_cons, List.not_mem_nil, or_false] at hs
            rcases hs with rfl | rfl | rfl | rfl
            · exact .inr hp4
            · exact .inl rfl
            · exact absurd rfl hne
            · exact absurd hd (by rw [hq11]; decide)) rfl (by decide) (by decide) hq12 hp4 hD (by simpa [Act.eval] using ee1) (by simpa [Act.eval] using ee2) hiv.1.sl (by simp only [List.length_append, List.length_nil, List.length_cons, List.length_take, List.length_drop]; have := HLL.out; omega)
        · intro D x w1 bA hI hD hdep hcl hb
          have e0 : bA.tmps[0]?.getD undef = .slice AX n c := hb 0
          refine wp_of_run (.slice AX n c) (w' := w1) ?_ (hI.val rfl (by simp) (by decide) (by decide) (by decide))
          clear hb hI hdep hcl
          go_simp
        · intro D x w1 bA hI hD hdep hcl hb
          have e10 : bA.tmps[10]?.getD undef = .int .i64 (m : Int) := hb 10
          refine wp_of_run (.int .i64 (m : Int)) (w' := w1) ?_ (hI.val rfl (by simp) (by decide) (by decide) (by decide))
          clear hb hI hdep hcl
          go_simp
        · intro D x w1 bA hI hD hdep hcl hb
          have e62 : bA.tmps[62]?.getD undef = .slice AX n c := (hb 62).trans (hI.kn 8 _ rfl (hdep 8 (by decide)))
          have e63 : bA.tmps[63]?.getD undef = .int .i64 (m : Int) := (hb 63).trans (hI.kn 9 _ rfl (hdep 9 (by decide)))
          refine wp_of_run (.slice AU (n - m) (c - m)) (w' := w1) ?_ (hI.val rfl (by simp) (by decide) (by decide) (by decide))
          clear hb hI hdep hcl
          go_simp
        · intro D x w1 bA hI hD hdep hcl hb
          have hp7 : D 7 = true := hdep 7 (by decide)
          have hp4 : D 4 = true := hcl 7 hp7 4 (by decide)
          have hp0 : D 0 = true := hcl 4 hp4 0 (by decide)
          have hq11 : D 11 = false := hD
          have hq12 : D 12 = false := by cases h : D 12 with | false => rfl | true => (have := hcl 12 h 11 (by decide); rw [hq11] at this; cases this)
          have ee1 : bA.tmps[61]?.getD undef = x 7 := hb 61
          have ee2 : bA.tmps[64]?.getD undef = .slice AU (n - m) (c - m) := (hb 64).trans (hI.kn 10 _ rfl (hdep 10 (by decide)))
          exact hI.app elI (.tmp 61) (.tmp 64) 22 22 rfl Tryd.underlying22 Tryd.underlying22 (r := 7) (i := 11) (n := 12) (L := [] ++ LX.take m ++ [ex]) (ys := LX.drop m) (by simp) (by simp) (fun s hs h => by simp only [List.mem_cons, List.not_mem_nil, or_false] at hs; rcases hs with rfl | rfl | rfl | rfl <;> first | rfl | cases h) (fun s hs hne hd => by
            simp only [List.mem_cons, List.not_mem_nil, or_false] at hs
            rcases hs with rfl | rfl | rfl | rfl
            · exact .inr hp4
            · exact .inr hp7
            · exact .inl rfl
            · exact absurd rfl hne) rfl (by decide) (by decide) hq12 hp7 hD (by simpa [Act.eval] using ee1) (by simpa [Act.eval] using ee2) (HL2.out _ hI.bel) (by simp only [List.length_append, List.length_nil, List.length_cons, List.length_take, List.length_drop]; have := HLL.out; omega)
        · intro D x w1 bA hI hD hdep hcl hb
          have hp := hdep 11 (by decide)
          refine wp_of_run (x 11) (w' := w1) ?_ (hI.last (g := 11) rfl (by simp) hp hD (by simp) rfl (by decide) (by decide))
          have e65 : bA.tmps[65]?.getD undef = x 11 := hb 65
          clear hb hI hdep hcl
          go_simp
        intro D x w1 hI hall
        have hfin := hI.fin (hall 12 (by simp))
        have hbelF := hI.bel
        have x1e : x 1 = .slice AX n c := hI.kn 1 _ rfl (hall 1 (by simp))
        have x2e : x 2 = .int .i64 (m : Int) := hI.kn 2 _ rfl (hall 2 (by simp))
        have x3e : x 3 = .slice AX m c := hI.kn 3 _ rfl (hall 3 (by simp))
        have x5e : x 5 = .int .i64 ex := hI.kn 5 _ rfl (hall 5 (by simp))
        have x8e : x 8 = .slice AX n c := hI.kn 8 _ rfl (hall 8 (by simp))
        have x9e : x 9 = .int .i64 (m : Int) := hI.kn 9 _ rfl (hall 9 (by simp))
        have x10e : x 10 = .slice AU (n - m) (c - m) := hI.kn 10 _ rfl (hall 10 (by simp))
        simp only [putAll, dstOf, Act.put, List.map_cons, List.map_nil, List.setIfInBounds_toArray, List.set_cons_succ, List.set_cons_zero, Nat.reduceAdd, x1e, x2e, x3e, x5e, x8e, x9e, x10e]
        clear x1e x2e x3e x5e x8e x9e x10e hI hall
        generalize x 12 = xF at hfin ⊢
        have hsl := hfin.sl
        clear hfin
        go_wp2_with fail
        go_meet
        exact ⟨hsl, hbelF⟩
      case rest =>
        obtain ⟨⟨A5, c5, rfl, hx5⟩, hb4⟩ := hcut
        have HSL := Lib.hid (show SlA ei wc (.slice A5 (LX.take m ++ [ex] ++ LX.drop m).length c5) (LX.take m ++ [ex] ++ LX.drop m) from ⟨A5, c5, rfl, hx5⟩)
        have HB4 := Lib.hid hb4
        have yq0 := (HQ.out.below hb4 HQ.out.lt).cell 0
        have yq1 := (HQ.out.below hb4 HQ.out.lt).cell 1
        have HQ4 := Lib.hid (HQ.out.below hb4 HQ.out.lt)
        obtain ⟨n5, hn5⟩ : ∃ z, z = (LX.take m ++ [ex] ++ LX.drop m).length := ⟨_, rfl⟩
        rw [← hn5] at HSL ⊢
        obtain ⟨w4, hw4⟩ : ∃ W, W = wc := ⟨_, rfl⟩
        rw [← hw4] at HSL HB4 HQ4 yq0 yq1 ⊢
        clear hx5 hb4 hn5 hw4
        go_upto_region 9 with fail
        go_cut [13] (fun s13 wx => SlA ew wx s13 (LY.take m ++ [X] ++ LY.drop m) ∧ Below w4.heap.size w4 wx)
        case first =>
          refine wp_region_factsU (by kernel_rfl) (by kernel_rfl) (by kernel_rfl) (by kernel_rfl) (by kernel_rfl) (ChA 114 2 ew w4.heap.size w4 (fun i => ([none, some (.slice A2 n c2), some (.int .i64 (m : Int)), some (.slice A2 m c2), none, some (.agg #[.int .i64 (nh X), .int .i64 (nl X)]), none, none, some (.slice A2 n c2), some (.int .i64 (m : Int)), some (.slice AV (n - m) (c2 - m)), none, none] : List (Option Value)).getD i none) [(0, 4, []), (4, 7, [] ++ LY.take m), (7, 11, [] ++ LY.take m ++ [X]), (11, 12, [] ++ LY.take m ++ [X] ++ LY.drop m)] 6 7 12 ([] ++ LY.take m ++ [X] ++ LY.drop m) ([X])) ?_ ⟨?_, ?_, ?_, ?_, ?_, ?_, ?_, ?_, ?_, ?_, ?_, ?_, ?_, trivial⟩ ?_
          · exact fun x => ⟨(Below.refl _ _).drew, Nat.le_refl _, fun i v _ h => Bool.noConfusion h, fun s _ h => Bool.noConfusion h, fun h => Bool.noConfusion h, fun h => Bool.noConfusion h⟩
          · intro D x w1 bA hI hD hdep hcl hb
            have hq0 : D 0 = false := hD
            have hq4 : D 4 = false := by cases h : D 4 with | false => rfl | true => (have := hcl 4 h 0 (by decide); rw [hq0] at this; cases this)
            have hq7 : D 7 = false := by cases h : D 7 with | false => rfl | true => (have := hcl 7 h 4 (by decide); rw [hq4] at this; cases this)
            have hq11 : D 11 = false := by cases h : D 11 with | false => rfl | true => (have := hcl 11 h 7 (by decide); rw [hq7] at this; cases this)
            have hq12 : D 12 = false := by cases h : D 12 with | false => rfl | true => (have := hcl 12 h 11 (by decide); rw [hq11] at this; cases this)
            refine wp_of_run (.slice (some ⟨w1.heap.size, 0, none⟩) 0 0) (w' := w1.alloc (.cells #[] 114)) ?_ (hI.stage (i := 0) (n := 4) (L := []) (by simp) (fun s hs h => by simp only [List.mem_cons, List.not_mem_nil, or_false] at hs; rcases hs with rfl | rfl | rfl | rfl <;> first | rfl | cases h) (fun s hs hne hd => by
              simp only [List.mem_cons, List.not_mem_nil, or_false] at hs
              rcases hs with rfl | rfl | rfl | rfl
              · exact absurd rfl hne
              · exact absurd hd (by rw [hq4]; decide)
              · exact absurd hd (by rw [hq7]; decide)
              · exact absurd hd (by rw [hq11]; decide)) rfl (by decide) (by decide) hq12 ((Below.refl _ _).alloc hI.siz _) (OwnA.emptyAt hI.siz (heap_alloc_new w1 _)) (fun d1 _ d3 => ⟨(hI.lit d1 d3).1.alloc _, fun k hk e => by have e2 : w1.heap.size = k := Option.some.inj e; have := (hI.lit d1 d3).1.lt k hk; omega⟩))
            clear hb hI hdep hcl
            go_simp
          · intro D x w1 bA hI hD hdep hcl hb
            have e1 : bA.tmps[1]?.getD undef = .slice A2 n c2 := hb 1
            refine wp_of_run (.slice A2 n c2) (w' := w1) ?_ (hI.val rfl (by simp) (by decide) (by decide) (by decide))
            clear hb hI hdep hcl
            go_simp
          · intro D x w1 bA hI hD hdep hcl hb
            have e10 : bA.tmps[10]?.getD undef = .int .i64 (m : Int) := hb 10
            refine wp_of_run (.int .i64 (m : Int)) (w' := w1) ?_ (hI.val rfl (by simp) (by decide) (by decide) (by decide))
            clear hb hI hdep hcl
            go_simp
          · intro D x w1 bA hI hD hdep hcl hb
            have e67 : bA.tmps[67]?.getD undef = .slice A2 n c2 := (hb 67).trans (hI.kn 1 _ rfl (hdep 1 (by decide)))
            have e68 : bA.tmps[68]?.getD undef = .int .i64 (m : Int) := (hb 68).trans (hI.kn 2 _ rfl (hdep 2 (by decide)))
            refine wp_of_run (.slice A2 m c2) (w' := w1) ?_ (hI.val rfl (by simp) (by decide) (by decide) (by decide))
            clear hb hI hdep hcl
            go_simp
          · intro D x w1 bA hI hD hdep hcl hb
            have hp0 : D 0 = true := hdep 0 (by decide)
            have hq4 : D 4 = false := hD
            have hq7 : D 7 = false := by cases h : D 7 with | false => rfl | true => (have := hcl 7 h 4 (by decide); rw [hq4] at this; cases this)
            have hq11 : D 11 = false := by cases h : D 11 with | false => rfl | true => (have := hcl 11 h 7 (by decide); rw [hq7] at this; cases this)
            have hq12 : D 12 = false := by cases h : D 12 with | false => rfl | true => (have := hcl 12 h 11 (by decide); rw [hq11] at this; cases this)
            have ee1 : bA.tmps[66]?.getD undef = x 0 := hb 66
            have ee2 : bA.tmps[69]?.getD undef = .slice A2 m c2 := (hb 69).trans (hI.kn 3 _ rfl (hdep 3 (by decide)))
            exact hI.app elW (.tmp 66) (.tmp 69) 110 110 rfl Tryd.underlying110 Tryd.underlying110 (r := 0) (i := 4) (n := 7) (L := []) (ys := LY.take m) (by simp) (by simp) (fun s hs h => by simp only [List.mem_cons, List.not_mem_nil, or_false] at hs; rcases hs with rfl | rfl | rfl | rfl <;> first | rfl | cases h) (fun s hs hne hd => by
              simp only [List.mem_cons, List.not_mem_nil, or_false] at hs
              rcases hs with rfl | rfl | rfl | rfl
              · exact .inl rfl
              · exact absurd rfl hne
              · exact absurd hd (by rw [hq7]; decide)
              · exact absurd hd (by rw [hq11]; decide)) rfl (by decide) (by decide) hq12 hp0 hD (by simpa [Act.eval] using ee1) (by simpa [Act.eval] using ee2) (HL3.out _ ((HB4.out).trans (hI.bel.mono HB4.out.size))) (by simp only [List.length_append, List.length_nil, List.length_cons, List.length_take, List.length_drop]; have := HLL.out; omega)
          · intro D x w1 bA hI hD hdep hcl hb
            have e7 : bA.tmps[7]?.getD undef = .pointer (some ⟨w.heap.size, 0, none⟩) := hb 7
            have yy0 := (HQ4.out.below hI.bel HQ4.out.lt).cell 0
            have yy1 := (HQ4.out.below hI.bel HQ4.out.lt).cell 1
            refine wp_of_run (.agg #[.int .i64 (nh X), .int .i64 (nl X)]) (w' := w1) ?_ (hI.val rfl (by simp) (by decide) (by decide) (by decide))
            clear hb hI hdep hcl
            go_simp
          · intro D x w1 bA hI hD hdep hcl hb
            have e71 : bA.tmps[71]?.getD undef = .agg #[.int .i64 (nh X), .int .i64 (nl X)] := (hb 71).trans (hI.kn 5 _ rfl (hdep 5 (by decide)))
            refine wp_of_run (.slice (some ⟨w1.heap.size, 0, none⟩) 1 1) (w' := w1.alloc (.cells #[.int .i64 (nh X), .int .i64 (nl X)] 114)) ?_ (hI.call (by simp) rfl (by decide) ((Below.refl _ _).alloc (Nat.le_refl _) _) (OwnA.lit (xs := [X]) (fun y _ => elW.len y) (Nat.le_refl _) (by simp) (by simp)))
            clear hb hI hdep hcl
            go_simp
          · intro D x w1 bA hI hD hdep hcl hb
            have hp4 : D 4 = true := hdep 4 (by decide)
            have hp0 : D 0 = true := hcl 4 hp4 0 (by decide)
            have hq7 : D 7 = false := hD
            have hq11 : D 11 = false := by cases h : D 11 with | false => rfl | true => (have := hcl 11 h 7 (by decide); rw [hq7] at this; cases this)
            have hq12 : D 12 = false := by cases h : D 12 with | false => rfl | true => (have := hcl 12 h 11 (by decide); rw [hq11] at this; cases this)
            have hiv := hI.lit (hdep 6 (by decide)) hD
            have ee1 : bA.tmps[70]?.getD undef = x 4 := hb 70
            have ee2 : bA.tmps[72]?.getD undef = x 6 := hb 72
            exact hI.app elW (.tmp 70) (.tmp 72) 110 110 rfl Tryd.underlying110 Tryd.underlying110 (r := 4) (i := 7) (n := 11) (L := [] ++ LY.take m) (ys := [X]) (by simp) (by simp) (fun s hs h => by simp only [List.mem_cons, List.not_mem_nil, or_false] at hs; rcases hs with rfl | rfl | rfl | rfl <;> first | rfl | cases h) (fun s hs hne hd => by
              simp only [List.mem_cons, List.not_mem_nil, or_false] at hs
              rcases hs with rfl | rfl | rfl | rfl
              · exact .inr hp4
              · exact .inl rfl
              · exact absurd rfl hne
              · exact absurd hd (by rw [hq11]; decide)) rfl (by decide) (by decide) hq12 hp4 hD (by simpa [Act.eval] using ee1) (by simpa [Act.eval] using ee2) hiv.1.sl (by simp only [List.length_append, List.length_nil, List.length_cons, List.length_take, List.length_drop]; have := HLL.out; omega)
          · intro D x w1 bA hI hD hdep hcl hb
            have e1 : bA.tmps[1]?.getD undef = .slice A2 n c2 := hb 1
            refine wp_of_run (.slice A2 n c2) (w' := w1) ?_ (hI.val rfl (by simp) (by decide) (by decide) (by decide))
            clear hb hI hdep hcl
            go_simp
          · intro D x w1 bA hI hD hdep hcl hb
            have e10 : bA.tmps[10]?.getD undef = .int .i64 (m : Int) := hb 10
            refine wp_of_run (.int .i64 (m : Int)) (w' := w1) ?_ (hI.val rfl (by simp) (by decide) (by decide) (by decide))
            clear hb hI hdep hcl
            go_simp
          · intro D x w1 bA hI hD hdep hcl hb
            have e74 : bA.tmps[74]?.getD undef = .slice A2 n c2 := (hb 74).trans (hI.kn 8 _ rfl (hdep 8 (by decide)))
            have e75 : bA.tmps[75]?.getD undef = .int .i64 (m : Int) := (hb 75).trans (hI.kn 9 _ rfl (hdep 9 (by decide)))
            refine wp_of_run (.slice AV (n - m) (c2 - m)) (w' := w1) ?_ (hI.val rfl (by simp) (by decide) (by decide) (by decide))
            clear hb hI hdep hcl
            go_simp
          · intro D x w1 bA hI hD hdep hcl hb
            have hp7 : D 7 = true := hdep 7 (by decide)
            have hp4 : D 4 = true := hcl 7 hp7 4 (by decide)
            have hp0 : D 0 = true := hcl 4 hp4 0 (by decide)
            have hq11 : D 11 = false := hD
            have hq12 : D 12 = false := by cases h : D 12 with | false => rfl | true => (have := hcl 12 h 11 (by decide); rw [hq11] at this; cases this)
            have ee1 : bA.tmps[73]?.getD undef = x 7 := hb 73
            have ee2 : bA.tmps[76]?.getD undef = .slice AV (n - m) (c2 - m) := (hb 76).trans (hI.kn 10 _ rfl (hdep 10 (by decide)))
            exact hI.app elW (.tmp 73) (.tmp 76) 110 110 rfl Tryd.underlying110 Tryd.underlying110 (r := 7) (i := 11) (n := 12) (L := [] ++ LY.take m ++ [X]) (ys := LY.drop m) (by simp) (by simp) (fun s hs h => by simp only [List.mem_cons, List.not_mem_nil, or_false] at hs; rcases hs with rfl | rfl | rfl | rfl <;> first | rfl | cases h) (fun s hs hne hd => by
              simp only [List.mem_cons, List.not_mem_nil, or_false] at hs
              rcases hs with rfl | rfl | rfl | rfl
              · exact .inr hp4
              · exact .inr hp7
              · exact .inl rfl
              · exact absurd rfl hne) rfl (by decide) (by decide) hq12 hp7 hD (by simpa [Act.eval] using ee1) (by simpa [Act.eval] using ee2) (HL4.out _ ((HB4.out).trans (hI.bel.mono HB4.out.size))) (by simp only [List.length_append, List.length_nil, List.length_cons, List.length_take, List.length_drop]; have := HLL.out; omega)
          · intro D x w1 bA hI hD hdep hcl hb
            have hp := hdep 11 (by decide)
            refine wp_of_run (x 11) (w' := w1) ?_ (hI.last (g := 11) rfl (by simp) hp hD (by simp) rfl (by decide) (by decide))
            have e77 : bA.tmps[77]?.getD undef = x 11 := hb 77
            clear hb hI hdep hcl
            go_simp
          intro D x w1 hI hall
          have hfin := hI.fin (hall 12 (by simp))
          have hbelF := hI.bel
          have x1e : x 1 = .slice A2 n c2 := hI.kn 1 _ rfl (hall 1 (by simp))
          have x2e : x 2 = .int .i64 (m : Int) := hI.kn 2 _ rfl (hall 2 (by simp))
          have x3e : x 3 = .slice A2 m c2 := hI.kn 3 _ rfl (hall 3 (by simp))
          have x5e : x 5 = .agg #[.int .i64 (nh X), .int .i64 (nl X)] := hI.kn 5 _ rfl (hall 5 (by simp))
          have x8e : x 8 = .slice A2 n c2 := hI.kn 8 _ rfl (hall 8 (by simp))
          have x9e : x 9 = .int .i64 (m : Int) := hI.kn 9 _ rfl (hall 9 (by simp))
          have x10e : x 10 = .slice AV (n - m) (c2 - m) := hI.kn 10 _ rfl (hall 10 (by simp))
          simp only [putAll, dstOf, Act.put, List.map_cons, List.map_nil, List.setIfInBounds_toArray, List.set_cons_succ, List.set_cons_zero, Nat.reduceAdd, x1e, x2e, x3e, x5e, x8e, x9e, x10e]
          clear x1e x2e x3e x5e x8e x9e x10e hI hall
          generalize x 12 = xF at hfin ⊢
          have hsl := hfin.sl
          clear hfin
          go_wp2_with fail
          go_meet
          exact ⟨hsl, hbelF⟩
        case rest =>
          obtain ⟨⟨A6, c6, rfl, hx6⟩, hb5⟩ := hcut
          have HSL2 := Lib.hid (show SlA ew wc (.slice A6 (LY.take m ++ [X] ++ LY.drop m).length c6) (LY.take m ++ [X] ++ LY.drop m) from ⟨A6, c6, rfl, hx6⟩)
          have HB5 := Lib.hid hb5
          obtain ⟨n6, hn6⟩ : ∃ z, z = (LY.take m ++ [X] ++ LY.drop m).length := ⟨_, rfl⟩
          rw [← hn6] at HSL2 ⊢
          clear hx6 hb5 hn6 yq0 yq1
          go_wp2_with fail
          go_ret2
          exact ⟨_, _, rfl, ⟨by rw [HK1.out, List.nil_append]; exact HSL.out.below HB5.out, by rw [HK2.out, List.nil_append]; exact HSL2.out⟩, HB.out.trans ((HB4.out.trans (HB5.out.mono HB4.out.size)).mono HB.out.size)⟩
end Go.Proofs.YtlbihllmpbhhcaaDoor
