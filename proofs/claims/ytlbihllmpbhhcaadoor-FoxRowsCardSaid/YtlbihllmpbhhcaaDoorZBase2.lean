/- Laurent polynomials as sorted lists of terms (exponent, coefficient): plain. -/
/- More words: results that lie in memory. -/
import Derived.Lib.Hide
import Derived.Test.YtlbihllmpbhhcaaDoorZBase
import Derived.Laws.ResultCell
namespace Go.Proofs.YtlbihllmpbhhcaaDoor
set_option linter.unusedVariables false

/-- the coefficient at an exponent -/
def cf : List (Int × Int) → Int → Int
  | [], _ => 0
  | t :: l, e => (if t.1 = e then t.2 else 0) + cf l e
theorem cf_nil (e : Int) : cf [] e = 0 := rfl
theorem cf_cons (t : Int × Int) (l : List (Int × Int)) (e : Int) : cf (t :: l) e = (if t.1 = e then t.2 else 0) + cf l e := rfl
theorem cf_append (l m : List (Int × Int)) (e : Int) : cf (l ++ m) e = cf l e + cf m e := by
  induction l with
  | nil => simp [cf]
  | cons t l ih => rw [List.cons_append, cf_cons, cf_cons, ih]; omega
theorem cf_one (t : Int × Int) (e : Int) : cf [t] e = if t.1 = e then t.2 else 0 := by rw [cf_cons, cf_nil]; omega
theorem cf_perm {l m : List (Int × Int)} (h : l.Perm m) (e : Int) : cf l e = cf m e := by
  induction h with
  | nil => rfl
  | cons t _ ih => rw [cf_cons, cf_cons, ih]
  | swap s t l => rw [cf_cons, cf_cons, cf_cons, cf_cons]; omega
  | trans _ _ ih1 ih2 => rw [ih1, ih2]
theorem cf_out {l : List (Int × Int)} {e : Int} (h : ∀ t ∈ l, t.1 ≠ e) : cf l e = 0 := by
  induction l with
  | nil => rfl
  | cons t l ih => rw [cf_cons, if_neg (h t (List.mem_cons_self ..)), ih (fun s hs => h s (List.mem_cons_of_mem _ hs))]; rfl
/-- sorted by exponents -/
def Srt (l : List (Int × Int)) : Prop := l.Pairwise fun a b => a.1 < b.1
structure Can (l : List (Int × Int)) : Prop where
  srt : Srt l
  nz : ∀ t ∈ l, t.2 ≠ 0
theorem Can.nil : Can [] := ⟨List.Pairwise.nil, fun t h => by cases h⟩
theorem cf_mem {l : List (Int × Int)} (h : Srt l) {t : Int × Int} (ht : t ∈ l) : cf l t.1 = t.2 := by
  induction l with
  | nil => cases ht
  | cons s l ih =>
    obtain ⟨h1, h2⟩ := List.pairwise_cons.1 h
    rw [cf_cons]
    rcases List.mem_cons.1 ht with rfl | hm
    · rw [if_pos rfl, cf_out (fun s hs => by have := h1 s hs; omega)]; omega
    · have := h1 t hm
      rw [if_neg (by omega), ih h2 hm]; omega
theorem Can.tail {t : Int × Int} {l : List (Int × Int)} (h : Can (t :: l)) : Can l := ⟨(List.pairwise_cons.1 h.srt).2, fun s hs => h.nz s (List.mem_cons_of_mem _ hs)⟩
theorem Can.ext : ∀ {l m : List (Int × Int)}, Can l → Can m → (∀ e, cf l e = cf m e) → l = m
  | [], [], _, _, _ => rfl
  | [], t :: m, _, k, he => by
    have h1 := cf_mem k.srt (List.mem_cons_self (a := t) (l := m))
    have h2 := k.nz t (List.mem_cons_self ..)
    rw [← he] at h1
    exact absurd h1.symm h2
  | s :: l, [], h, _, he => by
    have h1 := cf_mem h.srt (List.mem_cons_self (a := s) (l := l))
    have h2 := h.nz s (List.mem_cons_self ..)
    rw [he] at h1
    exact absurd h1.symm h2
  | s :: l, t :: m, h, k, he => by
    have a1 := (List.pairwise_cons.1 h.srt).1
    have b1 := (List.pairwise_cons.1 k.srt).1
    have a2 := cf_mem h.srt (List.mem_cons_self (a := s) (l := l))
    have b2 := cf_mem k.srt (List.mem_cons_self (a := t) (l := m))
    have a3 := h.nz s (List.mem_cons_self ..)
    have b3 := k.nz t (List.mem_cons_self ..)
    have e1 : s.1 = t.1 := by
      rcases Int.lt_trichotomy s.1 t.1 with q | q | q
      · rw [he, cf_out (fun x hx => by rcases List.mem_cons.1 hx with rfl | hx; omega; have := b1 x hx; omega)] at a2
        exact absurd a2.symm a3
      · exact q
      · rw [← he, cf_out (fun x hx => by rcases List.mem_cons.1 hx with rfl | hx; omega; have := a1 x hx; omega)] at b2
        exact absurd b2.symm b3
    have e2 : s = t := by
      refine Prod.ext e1 ?_
      rw [← a2, ← b2, he, e1]
    subst e2
    rw [Can.ext h.tail k.tail (fun e => by have := he e; rw [cf_cons, cf_cons] at this; omega)]
theorem Srt.snoc {l : List (Int × Int)} (h : Srt l) {t : Int × Int} (ht : ∀ s ∈ l, s.1 < t.1) : Srt (l ++ [t]) :=
  List.pairwise_append.2 ⟨h, List.pairwise_singleton _ _, fun a ha b hb => by rw [List.mem_singleton.1 hb]; exact ht a ha⟩
theorem Can.snoc {l : List (Int × Int)} (h : Can l) {t : Int × Int} (ht : ∀ s ∈ l, s.1 < t.1) (h0 : t.2 ≠ 0) : Can (l ++ [t]) :=
  ⟨h.srt.snoc ht, fun s hs => by
    rcases List.mem_append.1 hs with hs | hs
    · exact h.nz s hs
    · rw [List.mem_singleton.1 hs]; exact h0⟩
theorem cf_ne {l : List (Int × Int)} {e : Int} (h : cf l e ≠ 0) : ∃ t ∈ l, t.1 = e := by
  apply Classical.byContradiction
  intro hn
  exact h (cf_out fun t ht he => hn ⟨t, ht, he⟩)
theorem Can.ne {l : List (Int × Int)} (k : Can l) {t : Int × Int} (ht : t ∈ l) : cf l t.1 ≠ 0 := by rw [cf_mem k.srt ht]; exact k.nz t ht
/-- within the limits of the program -/
structure Lim (l : List (Int × Int)) : Prop where
  co : ∀ t ∈ l, -1125899906842624 ≤ t.2 ∧ t.2 ≤ 1125899906842624
  ex : ∀ t ∈ l, -1048576 ≤ t.1 ∧ t.1 ≤ 1048576
theorem Lim.nil : Lim [] := ⟨fun t h => (by cases h), fun t h => (by cases h)⟩
theorem srt_len : ∀ {l : List (Int × Int)} {a b : Int}, Srt l → (∀ t ∈ l, a ≤ t.1 ∧ t.1 ≤ b) → a ≤ b + 1 → (l.length : Int) ≤ b - a + 1
  | [], a, b, _, _, h => by simp; omega
  | t :: l, a, b, h, hb, _ => by
    obtain ⟨h1, h2⟩ := List.pairwise_cons.1 h
    have h3 := hb t (List.mem_cons_self ..)
    have := srt_len (a := t.1 + 1) (b := b) h2 (fun s hs => ⟨by have := h1 s hs; omega, (hb s (List.mem_cons_of_mem _ hs)).2⟩) (by omega)
    rw [List.length_cons]; omega
theorem Lim.len {l : List (Int × Int)} (h : Lim l) (k : Can l) : l.length ≤ 2097153 := by
  have := srt_len k.srt h.ex (by omega)
  omega
theorem Lim.cf {l : List (Int × Int)} (h : Lim l) (k : Can l) (e : Int) : -1125899906842624 ≤ Go.Proofs.YtlbihllmpbhhcaaDoor.cf l e ∧ Go.Proofs.YtlbihllmpbhhcaaDoor.cf l e ≤ 1125899906842624 := by
  by_cases h0 : Go.Proofs.YtlbihllmpbhhcaaDoor.cf l e = 0
  · rw [h0]; omega
  · obtain ⟨t, ht, rfl⟩ := cf_ne h0
    rw [cf_mem k.srt ht]; exact h.co t ht

/-- merging: the state after i terms of p and j terms of q -/
structure Mrg (f : Int → Int → Int) (p q : List (Int × Int)) (i j : Nat) (R : List (Int × Int)) : Prop where
  can : Can R
  eq : ∀ e, cf R e = f (cf (p.take i) e) (cf (q.take j) e)
  lt : ∀ t ∈ R, (∀ s ∈ p.drop i, t.1 < s.1) ∧ (∀ s ∈ q.drop j, t.1 < s.1)
  pq : ∀ s ∈ p.take i, ∀ t ∈ q.drop j, s.1 < t.1
  qp : ∀ s ∈ q.take j, ∀ t ∈ p.drop i, s.1 < t.1
  len : R.length ≤ i + j
def putR (R : List (Int × Int)) (e v : Int) : List (Int × Int) := if v = 0 then R else R ++ [(e, v)]
section
variable {f : Int → Int → Int} {p q R : List (Int × Int)} {i j : Nat}
theorem Mrg.start (h0 : f 0 0 = 0) : Mrg f p q 0 0 [] := ⟨Can.nil, fun e => (by simp [cf, h0]), fun t h => (by cases h), fun s h => (by simp at h), fun s h => (by simp at h), by simp⟩
theorem take_snoc' {l : List (Int × Int)} {i : Nat} (h : i < l.length) : l.take (i + 1) = l.take i ++ [l[i]] := by
  rw [List.take_add_one, List.getElem?_eq_getElem h]; rfl
theorem srt_drop {l : List (Int × Int)} (h : Srt l) {i : Nat} (hi : i < l.length) : (∀ s ∈ l.take i, s.1 < l[i].1) ∧ (∀ s ∈ l.drop (i + 1), l[i].1 < s.1) := by
  have e : l = l.take i ++ (l[i] :: l.drop (i + 1)) := by rw [← List.drop_eq_getElem_cons hi, List.take_append_drop]
  have h2 : (l.take i ++ (l[i] :: l.drop (i + 1))).Pairwise (fun a b => a.1 < b.1) := by rw [← e]; exact h
  obtain ⟨_, b, c⟩ := List.pairwise_append.1 h2
  exact ⟨fun s hs => c s hs _ (List.mem_cons_self ..), (List.pairwise_cons.1 b).1⟩
theorem mem_drop_succ {l : List (Int × Int)} {i : Nat} {s : Int × Int} (h : s ∈ l.drop (i + 1)) : s ∈ l.drop i := by
  rw [← List.drop_drop] at h
  exact List.mem_of_mem_drop h
theorem Mrg.put (h : Mrg f p q i j R) (h0 : f 0 0 = 0) {i' j' : Nat} {e0 a b : Int} (hi : i ≤ i') (hj : j ≤ j') (hij : i + j < i' + j')
    (hp : ∀ e, cf (p.take i') e = cf (p.take i) e + if e0 = e then a else 0) (hq : ∀ e, cf (q.take j') e = cf (q.take j) e + if e0 = e then b else 0)
    (zp : ∀ s ∈ p.take i, s.1 < e0) (zq : ∀ s ∈ q.take j, s.1 < e0) (gp : ∀ s ∈ p.drop i', e0 < s.1) (gq : ∀ s ∈ q.drop j', e0 < s.1)
    (mp : ∀ s ∈ p.take i', s ∈ p.take i ∨ s.1 = e0) (mq : ∀ s ∈ q.take j', s ∈ q.take j ∨ s.1 = e0) : Mrg f p q i' j' (putR R e0 (f a b)) := by
  have hd : ∀ (l : List (Int × Int)) {a b : Nat}, a ≤ b → ∀ s ∈ l.drop b, s ∈ l.drop a := fun l a b hab s hs => by
    rw [show b = a + (b - a) by omega, ← List.drop_drop] at hs
    exact List.mem_of_mem_drop hs
  have c0 : cf (p.take i) e0 = 0 := cf_out fun t ht => by have := zp t ht; omega
  have c1 : cf (q.take j) e0 = 0 := cf_out fun t ht => by have := zq t ht; omega
  have cR : cf R e0 = 0 := by rw [h.eq, c0, c1, h0]
  have lR : ∀ t ∈ R, t.1 < e0 := fun t ht => by
    have h1 := h.can.ne ht
    rw [h.eq] at h1
    by_cases e1 : cf (p.take i) t.1 = 0
    · by_cases e2 : cf (q.take j) t.1 = 0
      · rw [e1, e2, h0] at h1; exact absurd rfl h1
      · obtain ⟨s, hs, e⟩ := cf_ne e2
        rw [← e]; exact zq s hs
    · obtain ⟨s, hs, e⟩ := cf_ne e1
      rw [← e]; exact zp s hs
  have mem : ∀ t ∈ putR R e0 (f a b), t ∈ R ∨ t.1 = e0 := fun t ht => by
    unfold putR at ht
    split at ht
    · exact .inl ht
    · rcases List.mem_append.1 ht with h | h
      · exact .inl h
      · exact .inr (by rw [List.mem_singleton.1 h])
  refine ⟨?_, fun e => ?_, fun t ht => ?_, fun s hs t ht => ?_, fun s hs t ht => ?_, ?_⟩
  · unfold putR
    split
    · exact h.can
    · next hv => exact h.can.snoc lR hv
  · have e1 : cf (putR R e0 (f a b)) e = cf R e + if e0 = e then f a b else 0 := by
      unfold putR
      split
      · next hv => rw [hv]; split <;> omega
      · rw [cf_append, cf_one]
    rw [e1, hp, hq]
    by_cases he : e0 = e
    · subst he; rw [if_pos rfl, if_pos rfl, if_pos rfl, cR, c0, c1, Int.zero_add, Int.zero_add, Int.zero_add]
    · rw [if_neg he, if_neg he, if_neg he, Int.add_zero, Int.add_zero, Int.add_zero, h.eq]
  · rcases mem t ht with ht | ht
    · exact ⟨fun s hs => (h.lt t ht).1 s (hd p hi s hs), fun s hs => (h.lt t ht).2 s (hd q hj s hs)⟩
    · exact ⟨fun s hs => by rw [ht]; exact gp s hs, fun s hs => by rw [ht]; exact gq s hs⟩
  · rcases mp s hs with hs | hs
    · exact h.pq s hs t (hd q hj t ht)
    · rw [hs]; exact gq t ht
  · rcases mq s hs with hs | hs
    · exact h.qp s hs t (hd p hi t ht)
    · rw [hs]; exact gp t ht
  · have := h.len
    unfold putR
    split
    · omega
    · rw [List.length_append, List.length_singleton]; omega
theorem cf_take_succ {l : List (Int × Int)} {i : Nat} (h : i < l.length) (e : Int) : cf (l.take (i + 1)) e = cf (l.take i) e + if l[i].1 = e then l[i].2 else 0 := by
  rw [take_snoc' h, cf_append, cf_one]
theorem mem_take_succ {l : List (Int × Int)} {i : Nat} (h : i < l.length) : ∀ s ∈ l.take (i + 1), s ∈ l.take i ∨ s.1 = l[i].1 := fun s hs => by
  rw [take_snoc' h] at hs
  rcases List.mem_append.1 hs with hs | hs
  · exact .inl hs
  · exact .inr (by rw [List.mem_singleton.1 hs])
theorem mem_drop_self {l : List (Int × Int)} {i : Nat} (h : i < l.length) : l[i] ∈ l.drop i := by
  rw [List.drop_eq_getElem_cons h]; exact List.mem_cons_self ..
theorem srt_ge {l : List (Int × Int)} (h : Srt l) {i : Nat} (hi : i < l.length) : ∀ s ∈ l.drop i, l[i].1 ≤ s.1 := fun s hs => by
  rw [List.drop_eq_getElem_cons hi] at hs
  rcases List.mem_cons.1 hs with rfl | hs
  · omega
  · have := (srt_drop h hi).2 s hs; omega
theorem Mrg.left (h : Mrg f p q i j R) (h0 : f 0 0 = 0) (kp : Srt p) (kq : Srt q) (hi : i < p.length) (hc : ∀ s ∈ q.drop j, p[i].1 < s.1) : Mrg f p q (i + 1) j (putR R p[i].1 (f p[i].2 0)) :=
  h.put h0 (by omega) (Nat.le_refl _) (by omega) (cf_take_succ hi) (fun e => by split <;> omega) (srt_drop kp hi).1 (fun s hs => h.qp s hs _ (mem_drop_self hi)) (srt_drop kp hi).2 hc (mem_take_succ hi) (fun s hs => .inl hs)
theorem Mrg.right (h : Mrg f p q i j R) (h0 : f 0 0 = 0) (kp : Srt p) (kq : Srt q) (hj : j < q.length) (hc : ∀ s ∈ p.drop i, q[j].1 < s.1) : Mrg f p q i (j + 1) (putR R q[j].1 (f 0 q[j].2)) :=
  h.put h0 (Nat.le_refl _) (by omega) (by omega) (fun e => by split <;> omega) (cf_take_succ hj) (fun s hs => h.pq s hs _ (mem_drop_self hj)) (srt_drop kq hj).1 hc (srt_drop kq hj).2 (fun s hs => .inl hs) (mem_take_succ hj)
theorem Mrg.both (h : Mrg f p q i j R) (h0 : f 0 0 = 0) (kp : Srt p) (kq : Srt q) (hi : i < p.length) (hj : j < q.length) (he : p[i].1 = q[j].1) : Mrg f p q (i + 1) (j + 1) (putR R p[i].1 (f p[i].2 q[j].2)) :=
  h.put h0 (by omega) (by omega) (by omega) (cf_take_succ hi) (fun e => by rw [he]; exact cf_take_succ hj e) (srt_drop kp hi).1 (fun s hs => h.qp s hs _ (mem_drop_self hi)) (srt_drop kp hi).2 (fun s hs => by rw [he]; exact (srt_drop kq hj).2 s hs) (mem_take_succ hi) (fun s hs => by rw [he]; exact mem_take_succ hj s hs)
theorem Mrg.lt_right (kq : Srt q) (hj : j < q.length) {e : Int} (h : e < q[j].1) : ∀ s ∈ q.drop j, e < s.1 := fun s hs => by have := srt_ge kq hj s hs; omega
theorem Mrg.fin (h : Mrg f p q p.length q.length R) : ∀ e, cf R e = f (cf p e) (cf q e) := fun e => by have := h.eq e; rwa [List.take_length, List.take_length] at this
end
/-- all coefficients are within the limit -/
def fitsB (R : List (Int × Int)) : Bool := R.all fun t => decide (-1125899906842624 ≤ t.2 ∧ t.2 ≤ 1125899906842624)
theorem fitsB_put (R : List (Int × Int)) (e v : Int) : fitsB (putR R e v) = (fitsB R && decide (-1125899906842624 ≤ v ∧ v ≤ 1125899906842624)) := by
  unfold putR fitsB
  split
  · next h => rw [h]; simp
  · rw [List.all_append]; simp
theorem fitsB_iff {R : List (Int × Int)} (k : Can R) : fitsB R = true ↔ ∀ e, -1125899906842624 ≤ cf R e ∧ cf R e ≤ 1125899906842624 := by
  unfold fitsB
  rw [List.all_eq_true]
  constructor
  · intro h e
    by_cases h0 : cf R e = 0
    · rw [h0]; omega
    · obtain ⟨t, ht, rfl⟩ := cf_ne h0
      rw [cf_mem k.srt ht]; exact of_decide_eq_true (h t ht)
  · intro h t ht
    rw [← cf_mem k.srt ht]; exact decide_eq_true (h _)
/-- polynomials: big, or a list -/
abbrev Pol := Option (List (Int × Int))
def okP : Pol → Prop
  | none => True
  | some l => Can l ∧ Lim l
/-- the polynomial whose coefficients are those of p and q combined -/
def CombP (f : Int → Int → Int) : Pol → Pol → Pol → Prop
  | some p, some q, r => (∃ l, r = some l ∧ Can l ∧ Lim l ∧ ∀ e, cf l e = f (cf p e) (cf q e)) ∨ (r = none ∧ ∃ e, ¬ (-1125899906842624 ≤ f (cf p e) (cf q e) ∧ f (cf p e) (cf q e) ≤ 1125899906842624))
  | _, _, r => r = none
theorem comb_end {f : Int → Int → Int} {p q R : List (Int × Int)} (h0 : f 0 0 = 0) (h : Mrg f p q p.length q.length R) (lp : Lim p) (lq : Lim q) : CombP f (some p) (some q) (if fitsB R = true then some R else none) := by
  have hf := h.fin
  by_cases hb : fitsB R = true
  · rw [if_pos hb]
    refine .inl ⟨R, rfl, h.can, ⟨fun t ht => by rw [← cf_mem h.can.srt ht]; exact (fitsB_iff h.can).1 hb _, fun t ht => ?_⟩, hf⟩
    have h1 := h.can.ne ht
    rw [hf] at h1
    by_cases e1 : cf p t.1 = 0
    · by_cases e2 : cf q t.1 = 0
      · rw [e1, e2, h0] at h1; exact absurd rfl h1
      · obtain ⟨s, hs, e⟩ := cf_ne e2
        rw [← e]; exact lq.ex s hs
    · obtain ⟨s, hs, e⟩ := cf_ne e1
      rw [← e]; exact lp.ex s hs
  · rw [if_neg hb]
    refine .inr ⟨rfl, Classical.byContradiction fun hn => hb ((fitsB_iff h.can).2 fun e => ?_)⟩
    rw [hf]
    exact Classical.byContradiction fun h1 => hn ⟨e, h1⟩
end Go.Proofs.YtlbihllmpbhhcaaDoor

namespace Go.Proofs.YtlbihllmpbhhcaaDoor
set_option linter.unusedVariables false
open Go.RowKit

theorem results_ct {P : Program} {fn : Func} {p u : Tmp} {ty : TypeId} (h : fn.results = #[.cell p ty, .tmp u]) (tmps : Array Value) (w : World) (g : Nat) (t : TypeId) (cs : List Value) (d : TypeDesc)
    (hp : tmps.getD p undef = .pointer (some ⟨g, 0, none⟩)) (hg : Arr w g t cs)
    (hu : P.underlying ty = some d) (hd : (match d with | .struct _ | .array _ _ => true | _ => false) = true) (hi : (P.info? ty).map (·.size) = some (rowOf cs).size) :
    (results fn tmps).run P w = .ok (.tuple #[.agg (rowOf cs), tmps.getD u undef]) w := by
  rw [results_cell_tmp h, hp]
  simp [asAddr, run_loadVar_row w g t ty (rowOf cs) (0, 0) d hg hu hd hi]
theorem results_ctt {P : Program} {fn : Func} {p u u' : Tmp} {ty : TypeId} (h : fn.results = #[.cell p ty, .tmp u, .tmp u']) (tmps : Array Value) (w : World) (g : Nat) (t : TypeId) (cs : List Value) (d : TypeDesc)
    (hp : tmps.getD p undef = .pointer (some ⟨g, 0, none⟩)) (hg : Arr w g t cs)
    (hu : P.underlying ty = some d) (hd : (match d with | .struct _ | .array _ _ => true | _ => false) = true) (hi : (P.info? ty).map (·.size) = some (rowOf cs).size) :
    (results fn tmps).run P w = .ok (.tuple #[.agg (rowOf cs), tmps.getD u undef, tmps.getD u' undef]) w := by
  have hp' : tmps[p]?.getD undef = .pointer (some ⟨g, 0, none⟩) := by simpa using hp
  simp only [results, h]
  simp [hp', Result.andThen, asAddr, run_loadVar_row w g t ty (rowOf cs) (0, 0) d hg hu hd hi]
theorem results_c {P : Program} {fn : Func} {p : Tmp} {ty : TypeId} (h : fn.results = #[.cell p ty]) (tmps : Array Value) (w : World) (g : Nat) (t : TypeId) (cs : List Value) (d : TypeDesc)
    (hp : tmps.getD p undef = .pointer (some ⟨g, 0, none⟩)) (hg : Arr w g t cs)
    (hu : P.underlying ty = some d) (hd : (match d with | .struct _ | .array _ _ => true | _ => false) = true) (hi : (P.info? ty).map (·.size) = some (rowOf cs).size) :
    (results fn tmps).run P w = .ok (.agg (rowOf cs)) w := results_cell_row h tmps w g t (rowOf cs) (0, 0) d hp hg hu hd hi
end Go.Proofs.YtlbihllmpbhhcaaDoor
