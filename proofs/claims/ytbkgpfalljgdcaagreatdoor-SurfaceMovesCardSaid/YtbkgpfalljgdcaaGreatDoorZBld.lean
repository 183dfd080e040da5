/- Laurent polynomials as sorted lists of terms (exponent, coefficient): plain. -/
/- More words: results that lie in memory. -/
/- Laurent polynomials in memory: slices of terms, polynomials as values. -/
/- strings.Builder: copyCheck, WriteByte, WriteString (the shelf's do not lie over this dump). -/
import Derived.Lib.Hide
import Derived.Test.YtbkgpfalljgdcaaGreatDoorZBase
import Derived.Laws.ResultCell
import Derived.Test.YtbkgpfalljgdcaaGreatDoorChecked
import Derived.Maps.AppendAt
import Derived.Deep.AppendLies
import Derived.OwnWalk
import Derived.Test.YtbkgpfalljgdcaaGreatDoorShelf
import Derived.Shelf.Strings.Builder1
namespace Go.Proofs.YtbkgpfalljgdcaaGreatDoor
set_option linter.unusedVariables false

/-- the coefficient at an exponent -/
def cf : List (Int × Int) → Int → Int
  | [], _ => 0
  | t :: l, e => (if t.1 = e then t.2 else 0) + cf l e
theorem cf_nil (e : Int) : cf [] e = 0 := rfl
theorem cf_cons (t : Int × Int) (l : List (Int × Int)) (e : Int) : cf (t :: l) e = (if t.1 = e then t.2 else 0) + cf l e := rfl
theorem cf_append (l m : List (Int × Int)) (e : Int) : cf (l ++ m) e = cf l e + cf m e := by
  induction l with
  | nil => simp [cf]
  | cons t l ih => rw [List.cons_append, cf_cons, cf_cons, ih]; omega
theorem cf_one (t : Int × Int) (e : Int) : cf [t] e = if t.1 = e then t.2 else 0 := by rw [cf_cons, cf_nil]; omega
theorem cf_perm {l m : List (Int × Int)} (h : l.Perm m) (e : Int) : cf l e = cf m e := by
  induction h with
  | nil => rfl
  | cons t _ ih => rw [cf_cons, cf_cons, ih]
  | swap s t l => rw [cf_cons, cf_cons, cf_cons, cf_cons]; omega
  | trans _ _ ih1 ih2 => rw [ih1, ih2]
theorem cf_out {l : List (Int × Int)} {e : Int} (h : ∀ t ∈ l, t.1 ≠ e) : cf l e = 0 := by
  induction l with
  | nil => rfl
  | cons t l ih => rw [cf_cons, if_neg (h t (List.mem_cons_self ..)), ih (fun s hs => h s (List.mem_cons_of_mem _ hs))]; rfl
/-- sorted by exponents -/
def Srt (l : List (Int × Int)) : Prop := l.Pairwise fun a b => a.1 < b.1
structure Can (l : List (Int × Int)) : Prop where
  srt : Srt l
  nz : ∀ t ∈ l, t.2 ≠ 0
theorem Can.nil : Can [] := ⟨List.Pairwise.nil, fun t h => by cases h⟩
theorem cf_mem {l : List (Int × Int)} (h : Srt l) {t : Int × Int} (ht : t ∈ l) : cf l t.1 = t.2 := by
  induction l with
  | nil => cases ht
  | cons s l ih =>
    obtain ⟨h1, h2⟩ := List.pairwise_cons.1 h
    rw [cf_cons]
    rcases List.mem_cons.1 ht with rfl | hm
    · rw [if_pos rfl, cf_out (fun s hs => by have := h1 s hs; omega)]; omega
    · have := h1 t hm
      rw [if_neg (by omega), ih h2 hm]; omega
theorem Can.tail {t : Int × Int} {l : List (Int × Int)} (h : Can (t :: l)) : Can l := ⟨(List.pairwise_cons.1 h.srt).2, fun s hs => h.nz s (List.mem_cons_of_mem _ hs)⟩
theorem Can.ext : ∀ {l m : List (Int × Int)}, Can l → Can m → (∀ e, cf l e = cf m e) → l = m
  | [], [], _, _, _ => rfl
  | [], t :: m, _, k, he => by
    have h1 := cf_mem k.srt (List.mem_cons_self (a := t) (l := m))
    have h2 := k.nz t (List.mem_cons_self ..)
    rw [← he] at h1
    exact absurd h1.symm h2
  | s :: l, [], h, _, he => by
    have h1 := cf_mem h.srt (List.mem_cons_self (a := s) (l := l))
    have h2 := h.nz s (List.mem_cons_self ..)
    rw [he] at h1
    exact absurd h1.symm h2
  | s :: l, t :: m, h, k, he => by
    have a1 := (List.pairwise_cons.1 h.srt).1
    have b1 := (List.pairwise_cons.1 k.srt).1
    have a2 := cf_mem h.srt (List.mem_cons_self (a := s) (l := l))
    have b2 := cf_mem k.srt (List.mem_cons_self (a := t) (l := m))
    have a3 := h.nz s (List.mem_cons_self ..)
    have b3 := k.nz t (List.mem_cons_self ..)
    have e1 : s.1 = t.1 := by
      rcases Int.lt_trichotomy s.1 t.1 with q | q | q
      · rw [he, cf_out (fun x hx => by rcases List.mem_cons.1 hx with rfl | hx; omega; have := b1 x hx; omega)] at a2
        exact absurd a2.symm a3
      · exact q
      · rw [← he, cf_out (fun x hx => by rcases List.mem_cons.1 hx with rfl | hx; omega; have := a1 x hx; omega)] at b2
        exact absurd b2.symm b3
    have e2 : s = t := by
      refine Prod.ext e1 ?_
      rw [← a2, ← b2, he, e1]
    subst e2
    rw [Can.ext h.tail k.tail (fun e => by have := he e; rw [cf_cons, cf_cons] at this; omega)]
theorem Srt.snoc {l : List (Int × Int)} (h : Srt l) {t : Int × Int} (ht : ∀ s ∈ l, s.1 < t.1) : Srt (l ++ [t]) :=
  List.pairwise_append.2 ⟨h, List.pairwise_singleton _ _, fun a ha b hb => by rw [List.mem_singleton.1 hb]; exact ht a ha⟩
theorem Can.snoc {l : List (Int × Int)} (h : Can l) {t : Int × Int} (ht : ∀ s ∈ l, s.1 < t.1) (h0 : t.2 ≠ 0) : Can (l ++ [t]) :=
  ⟨h.srt.snoc ht, fun s hs => by
    rcases List.mem_append.1 hs with hs | hs
    · exact h.nz s hs
    · rw [List.mem_singleton.1 hs]; exact h0⟩
theorem cf_ne {l : List (Int × Int)} {e : Int} (h : cf l e ≠ 0) : ∃ t ∈ l, t.1 = e := by
  apply Classical.byContradiction
  intro hn
  exact h (cf_out fun t ht he => hn ⟨t, ht, he⟩)
theorem Can.ne {l : List (Int × Int)} (k : Can l) {t : Int × Int} (ht : t ∈ l) : cf l t.1 ≠ 0 := by rw [cf_mem k.srt ht]; exact k.nz t ht
/-- within the limits of the program -/
structure Lim (l : List (Int × Int)) : Prop where
  co : ∀ t ∈ l, -1125899906842624 ≤ t.2 ∧ t.2 ≤ 1125899906842624
  ex : ∀ t ∈ l, -1048576 ≤ t.1 ∧ t.1 ≤ 1048576
theorem Lim.nil : Lim [] := ⟨fun t h => (by cases h), fun t h => (by cases h)⟩
theorem srt_len : ∀ {l : List (Int × Int)} {a b : Int}, Srt l → (∀ t ∈ l, a ≤ t.1 ∧ t.1 ≤ b) → a ≤ b + 1 → (l.length : Int) ≤ b - a + 1
  | [], a, b, _, _, h => by simp; omega
  | t :: l, a, b, h, hb, _ => by
    obtain ⟨h1, h2⟩ := List.pairwise_cons.1 h
    have h3 := hb t (List.mem_cons_self ..)
    have := srt_len (a := t.1 + 1) (b := b) h2 (fun s hs => ⟨by have := h1 s hs; omega, (hb s (List.mem_cons_of_mem _ hs)).2⟩) (by omega)
    rw [List.length_cons]; omega
theorem Lim.len {l : List (Int × Int)} (h : Lim l) (k : Can l) : l.length ≤ 2097153 := by
  have := srt_len k.srt h.ex (by omega)
  omega
theorem Lim.cf {l : List (Int × Int)} (h : Lim l) (k : Can l) (e : Int) : -1125899906842624 ≤ Go.Proofs.YtbkgpfalljgdcaaGreatDoor.cf l e ∧ Go.Proofs.YtbkgpfalljgdcaaGreatDoor.cf l e ≤ 1125899906842624 := by
  by_cases h0 : Go.Proofs.YtbkgpfalljgdcaaGreatDoor.cf l e = 0
  · rw [h0]; omega
  · obtain ⟨t, ht, rfl⟩ := cf_ne h0
    rw [cf_mem k.srt ht]; exact h.co t ht

/-- merging: the state after i terms of p and j terms of q -/
structure Mrg (f : Int → Int → Int) (p q : List (Int × Int)) (i j : Nat) (R : List (Int × Int)) : Prop where
  can : Can R
  eq : ∀ e, cf R e = f (cf (p.take i) e) (cf (q.take j) e)
  lt : ∀ t ∈ R, (∀ s ∈ p.drop i, t.1 < s.1) ∧ (∀ s ∈ q.drop j, t.1 < s.1)
  pq : ∀ s ∈ p.take i, ∀ t ∈ q.drop j, s.1 < t.1
  qp : ∀ s ∈ q.take j, ∀ t ∈ p.drop i, s.1 < t.1
  len : R.length ≤ i + j
def putR (R : List (Int × Int)) (e v : Int) : List (Int × Int) := if v = 0 then R else R ++ [(e, v)]
section
variable {f : Int → Int → Int} {p q R : List (Int × Int)} {i j : Nat}
theorem Mrg.start (h0 : f 0 0 = 0) : Mrg f p q 0 0 [] := ⟨Can.nil, fun e => (by simp [cf, h0]), fun t h => (by cases h), fun s h => (by simp at h), fun s h => (by simp at h), by simp⟩
theorem take_snoc' {l : List (Int × Int)} {i : Nat} (h : i < l.length) : l.take (i + 1) = l.take i ++ [l[i]] := by
  rw [List.take_add_one, List.getElem?_eq_getElem h]; rfl
theorem srt_drop {l : List (Int × Int)} (h : Srt l) {i : Nat} (hi : i < l.length) : (∀ s ∈ l.take i, s.1 < l[i].1) ∧ (∀ s ∈ l.drop (i + 1), l[i].1 < s.1) := by
  have e : l = l.take i ++ (l[i] :: l.drop (i + 1)) := by rw [← List.drop_eq_getElem_cons hi, List.take_append_drop]
  have h2 : (l.take i ++ (l[i] :: l.drop (i + 1))).Pairwise (fun a b => a.1 < b.1) := by rw [← e]; exact h
  obtain ⟨_, b, c⟩ := List.pairwise_append.1 h2
  exact ⟨fun s hs => c s hs _ (List.mem_cons_self ..), (List.pairwise_cons.1 b).1⟩
theorem mem_drop_succ {l : List (Int × Int)} {i : Nat} {s : Int × Int} (h : s ∈ l.drop (i + 1)) : s ∈ l.drop i := by
  rw [← List.drop_drop] at h
  exact List.mem_of_mem_drop h
theorem Mrg.put (h : Mrg f p q i j R) (h0 : f 0 0 = 0) {i' j' : Nat} {e0 a b : Int} (hi : i ≤ i') (hj : j ≤ j') (hij : i + j < i' + j')
    (hp : ∀ e, cf (p.take i') e = cf (p.take i) e + if e0 = e then a else 0) (hq : ∀ e, cf (q.take j') e = cf (q.take j) e + if e0 = e then b else 0)
    (zp : ∀ s ∈ p.take i, s.1 < e0) (zq : ∀ s ∈ q.take j, s.1 < e0) (gp : ∀ s ∈ p.drop i', e0 < s.1) (gq : ∀ s ∈ q.drop j', e0 < s.1)
    (mp : ∀ s ∈ p.take i', s ∈ p.take i ∨ s.1 = e0) (mq : ∀ s ∈ q.take j', s ∈ q.take j ∨ s.1 = e0) : Mrg f p q i' j' (putR R e0 (f a b)) := by
  have hd : ∀ (l : List (Int × Int)) {a b : Nat}, a ≤ b → ∀ s ∈ l.drop b, s ∈ l.drop a := fun l a b hab s hs => by
    rw [show b = a + (b - a) by omega, ← List.drop_drop] at hs
    exact List.mem_of_mem_drop hs
  have c0 : cf (p.take i) e0 = 0 := cf_out fun t ht => by have := zp t ht; omega
  have c1 : cf (q.take j) e0 = 0 := cf_out fun t ht => by have := zq t ht; omega
  have cR : cf R e0 = 0 := by rw [h.eq, c0, c1, h0]
  have lR : ∀ t ∈ R, t.1 < e0 := fun t ht => by
    have h1 := h.can.ne ht
    rw [h.eq] at h1
    by_cases e1 : cf (p.take i) t.1 = 0
    · by_cases e2 : cf (q.take j) t.1 = 0
      · rw [e1, e2, h0] at h1; exact absurd rfl h1
      · obtain ⟨s, hs, e⟩ := cf_ne e2
        rw [← e]; exact zq s hs
    · obtain ⟨s, hs, e⟩ := cf_ne e1
      rw [← e]; exact zp s hs
  have mem : ∀ t ∈ putR R e0 (f a b), t ∈ R ∨ t.1 = e0 := fun t ht => by
    unfold putR at ht
    split at ht
    · exact .inl ht
    · rcases List.mem_append.1 ht with h | h
      · exact .inl h
      · exact .inr (by rw [List.mem_singleton.1 h])
  refine ⟨?_, fun e => ?_, fun t ht => ?_, fun s hs t ht => ?_, fun s hs t ht => ?_, ?_⟩
  · unfold putR
    split
    · exact h.can
    · next hv => exact h.can.snoc lR hv
  · have e1 : cf (putR R e0 (f a b)) e = cf R e + if e0 = e then f a b else 0 := by
      unfold putR
      split
      · next hv => rw [hv]; split <;> omega
      · rw [cf_append, cf_one]
    rw [e1, hp, hq]
    by_cases he : e0 = e
    · subst he; rw [if_pos rfl, if_pos rfl, if_pos rfl, cR, c0, c1, Int.zero_add, Int.zero_add, Int.zero_add]
    · rw [if_neg he, if_neg he, if_neg he, Int.add_zero, Int.add_zero, Int.add_zero, h.eq]
  · rcases mem t ht with ht | ht
    · exact ⟨fun s hs => (h.lt t ht).1 s (hd p hi s hs), fun s hs => (h.lt t ht).2 s (hd q hj s hs)⟩
    · exact ⟨fun s hs => by rw [ht]; exact gp s hs, fun s hs => by rw [ht]; exact gq s hs⟩
  · rcases mp s hs with hs | hs
    · exact h.pq s hs t (hd q hj t ht)
    · rw [hs]; exact gq t ht
  · rcases mq s hs with hs | hs
    · exact h.qp s hs t (hd p hi t ht)
    · rw [hs]; exact gp t ht
  · have := h.len
    unfold putR
    split
    · omega
    · rw [List.length_append, List.length_singleton]; omega
theorem cf_take_succ {l : List (Int × Int)} {i : Nat} (h : i < l.length) (e : Int) : cf (l.take (i + 1)) e = cf (l.take i) e + if l[i].1 = e then l[i].2 else 0 := by
  rw [take_snoc' h, cf_append, cf_one]
theorem mem_take_succ {l : List (Int × Int)} {i : Nat} (h : i < l.length) : ∀ s ∈ l.take (i + 1), s ∈ l.take i ∨ s.1 = l[i].1 := fun s hs => by
  rw [take_snoc' h] at hs
  rcases List.mem_append.1 hs with hs | hs
  · exact .inl hs
  · exact .inr (by rw [List.mem_singleton.1 hs])
theorem mem_drop_self {l : List (Int × Int)} {i : Nat} (h : i < l.length) : l[i] ∈ l.drop i := by
  rw [List.drop_eq_getElem_cons h]; exact List.mem_cons_self ..
theorem srt_ge {l : List (Int × Int)} (h : Srt l) {i : Nat} (hi : i < l.length) : ∀ s ∈ l.drop i, l[i].1 ≤ s.1 := fun s hs => by
  rw [List.drop_eq_getElem_cons hi] at hs
  rcases List.mem_cons.1 hs with rfl | hs
  · omega
  · have := (srt_drop h hi).2 s hs; omega
theorem Mrg.left (h : Mrg f p q i j R) (h0 : f 0 0 = 0) (kp : Srt p) (kq : Srt q) (hi : i < p.length) (hc : ∀ s ∈ q.drop j, p[i].1 < s.1) : Mrg f p q (i + 1) j (putR R p[i].1 (f p[i].2 0)) :=
  h.put h0 (by omega) (Nat.le_refl _) (by omega) (cf_take_succ hi) (fun e => by split <;> omega) (srt_drop kp hi).1 (fun s hs => h.qp s hs _ (mem_drop_self hi)) (srt_drop kp hi).2 hc (mem_take_succ hi) (fun s hs => .inl hs)
theorem Mrg.right (h : Mrg f p q i j R) (h0 : f 0 0 = 0) (kp : Srt p) (kq : Srt q) (hj : j < q.length) (hc : ∀ s ∈ p.drop i, q[j].1 < s.1) : Mrg f p q i (j + 1) (putR R q[j].1 (f 0 q[j].2)) :=
  h.put h0 (Nat.le_refl _) (by omega) (by omega) (fun e => by split <;> omega) (cf_take_succ hj) (fun s hs => h.pq s hs _ (mem_drop_self hj)) (srt_drop kq hj).1 hc (srt_drop kq hj).2 (fun s hs => .inl hs) (mem_take_succ hj)
theorem Mrg.both (h : Mrg f p q i j R) (h0 : f 0 0 = 0) (kp : Srt p) (kq : Srt q) (hi : i < p.length) (hj : j < q.length) (he : p[i].1 = q[j].1) : Mrg f p q (i + 1) (j + 1) (putR R p[i].1 (f p[i].2 q[j].2)) :=
  h.put h0 (by omega) (by omega) (by omega) (cf_take_succ hi) (fun e => by rw [he]; exact cf_take_succ hj e) (srt_drop kp hi).1 (fun s hs => h.qp s hs _ (mem_drop_self hi)) (srt_drop kp hi).2 (fun s hs => by rw [he]; exact (srt_drop kq hj).2 s hs) (mem_take_succ hi) (fun s hs => by rw [he]; exact mem_take_succ hj s hs)
theorem Mrg.lt_right (kq : Srt q) (hj : j < q.length) {e : Int} (h : e < q[j].1) : ∀ s ∈ q.drop j, e < s.1 := fun s hs => by have := srt_ge kq hj s hs; omega
theorem Mrg.fin (h : Mrg f p q p.length q.length R) : ∀ e, cf R e = f (cf p e) (cf q e) := fun e => by have := h.eq e; rwa [List.take_length, List.take_length] at this
end
/-- all coefficients are within the limit -/
def fitsB (R : List (Int × Int)) : Bool := R.all fun t => decide (-1125899906842624 ≤ t.2 ∧ t.2 ≤ 1125899906842624)
theorem fitsB_put (R : List (Int × Int)) (e v : Int) : fitsB (putR R e v) = (fitsB R && decide (-1125899906842624 ≤ v ∧ v ≤ 1125899906842624)) := by
  unfold putR fitsB
  split
  · next h => rw [h]; simp
  · rw [List.all_append]; simp
theorem fitsB_iff {R : List (Int × Int)} (k : Can R) : fitsB R = true ↔ ∀ e, -1125899906842624 ≤ cf R e ∧ cf R e ≤ 1125899906842624 := by
  unfold fitsB
  rw [List.all_eq_true]
  constructor
  · intro h e
    by_cases h0 : cf R e = 0
    · rw [h0]; omega
    · obtain ⟨t, ht, rfl⟩ := cf_ne h0
      rw [cf_mem k.srt ht]; exact of_decide_eq_true (h t ht)
  · intro h t ht
    rw [← cf_mem k.srt ht]; exact decide_eq_true (h _)
/-- polynomials: big, or a list -/
abbrev Pol := Option (List (Int × Int))
def okP : Pol → Prop
  | none => True
  | some l => Can l ∧ Lim l
/-- the polynomial whose coefficients are those of p and q combined -/
def CombP (f : Int → Int → Int) : Pol → Pol → Pol → Prop
  | some p, some q, r => (∃ l, r = some l ∧ Can l ∧ Lim l ∧ ∀ e, cf l e = f (cf p e) (cf q e)) ∨ (r = none ∧ ∃ e, ¬ (-1125899906842624 ≤ f (cf p e) (cf q e) ∧ f (cf p e) (cf q e) ≤ 1125899906842624))
  | _, _, r => r = none
theorem comb_end {f : Int → Int → Int} {p q R : List (Int × Int)} (h0 : f 0 0 = 0) (h : Mrg f p q p.length q.length R) (lp : Lim p) (lq : Lim q) : CombP f (some p) (some q) (if fitsB R = true then some R else none) := by
  have hf := h.fin
  by_cases hb : fitsB R = true
  · rw [if_pos hb]
    refine .inl ⟨R, rfl, h.can, ⟨fun t ht => by rw [← cf_mem h.can.srt ht]; exact (fitsB_iff h.can).1 hb _, fun t ht => ?_⟩, hf⟩
    have h1 := h.can.ne ht
    rw [hf] at h1
    by_cases e1 : cf p t.1 = 0
    · by_cases e2 : cf q t.1 = 0
      · rw [e1, e2, h0] at h1; exact absurd rfl h1
      · obtain ⟨s, hs, e⟩ := cf_ne e2
        rw [← e]; exact lq.ex s hs
    · obtain ⟨s, hs, e⟩ := cf_ne e1
      rw [← e]; exact lp.ex s hs
  · rw [if_neg hb]
    refine .inr ⟨rfl, Classical.byContradiction fun hn => hb ((fitsB_iff h.can).2 fun e => ?_)⟩
    rw [hf]
    exact Classical.byContradiction fun h1 => hn ⟨e, h1⟩
end Go.Proofs.YtbkgpfalljgdcaaGreatDoor

namespace Go.Proofs.YtbkgpfalljgdcaaGreatDoor
set_option linter.unusedVariables false
open Go.RowKit

theorem results_ct {P : Program} {fn : Func} {p u : Tmp} {ty : TypeId} (h : fn.results = #[.cell p ty, .tmp u]) (tmps : Array Value) (w : World) (g : Nat) (t : TypeId) (cs : List Value) (d : TypeDesc)
    (hp : tmps.getD p undef = .pointer (some ⟨g, 0, none⟩)) (hg : Arr w g t cs)
    (hu : P.underlying ty = some d) (hd : (match d with | .struct _ | .array _ _ => true | _ => false) = true) (hi : (P.info? ty).map (·.size) = some (rowOf cs).size) :
    (results fn tmps).run P w = .ok (.tuple #[.agg (rowOf cs), tmps.getD u undef]) w := by
  rw [results_cell_tmp h, hp]
  simp [asAddr, run_loadVar_row w g t ty (rowOf cs) (0, 0) d hg hu hd hi]
theorem results_ctt {P : Program} {fn : Func} {p u u' : Tmp} {ty : TypeId} (h : fn.results = #[.cell p ty, .tmp u, .tmp u']) (tmps : Array Value) (w : World) (g : Nat) (t : TypeId) (cs : List Value) (d : TypeDesc)
    (hp : tmps.getD p undef = .pointer (some ⟨g, 0, none⟩)) (hg : Arr w g t cs)
    (hu : P.underlying ty = some d) (hd : (match d with | .struct _ | .array _ _ => true | _ => false) = true) (hi : (P.info? ty).map (·.size) = some (rowOf cs).size) :
    (results fn tmps).run P w = .ok (.tuple #[.agg (rowOf cs), tmps.getD u undef, tmps.getD u' undef]) w := by
  have hp' : tmps[p]?.getD undef = .pointer (some ⟨g, 0, none⟩) := by simpa using hp
  simp only [results, h]
  simp [hp', Result.andThen, asAddr, run_loadVar_row w g t ty (rowOf cs) (0, 0) d hg hu hd hi]
theorem results_c {P : Program} {fn : Func} {p : Tmp} {ty : TypeId} (h : fn.results = #[.cell p ty]) (tmps : Array Value) (w : World) (g : Nat) (t : TypeId) (cs : List Value) (d : TypeDesc)
    (hp : tmps.getD p undef = .pointer (some ⟨g, 0, none⟩)) (hg : Arr w g t cs)
    (hu : P.underlying ty = some d) (hd : (match d with | .struct _ | .array _ _ => true | _ => false) = true) (hi : (P.info? ty).map (·.size) = some (rowOf cs).size) :
    (results fn tmps).run P w = .ok (.agg (rowOf cs)) w := results_cell_row h tmps w g t (rowOf cs) (0, 0) d hp hg hu hd hi
end Go.Proofs.YtbkgpfalljgdcaaGreatDoor

namespace Go.Proofs.YtbkgpfalljgdcaaGreatDoor
open Go.RowKit
set_option linter.unusedVariables false

/-- a term as cells -/
def tc (t : Int × Int) : List Value := [.int .i64 t.1, .int .i64 t.2]
def OwnT (base : Nat) (w : World) (v : Value) (l : List (Int × Int)) : Prop := w.ownsRow base 67 2 v l.length (l.flatMap tc)
/-- a block of terms -/
def TB (w : World) (b : Nat) : Prop := ∃ cs fr, w.heap[b]? = some (.cells cs 67 fr)
/-- a slice that reads as terms, in a block of terms -/
def Tms (w : World) (v : Value) (l : List (Int × Int)) : Prop :=
  ∃ A c, v = .slice A l.length c ∧ ∀ k (h : k < l.length), ∃ b o, A = some ⟨b, o, none⟩ ∧ w.cell? ⟨b, o + k * 2, none⟩ = some (.int .i64 l[k].1) ∧ w.cell? ⟨b, o + k * 2 + 1, none⟩ = some (.int .i64 l[k].2) ∧ TB w b
theorem Tms.below {w w' : World} {v : Value} {l : List (Int × Int)} (h : Tms w v l) (hb : Below w.heap.size w w') : Tms w' v l := by
  obtain ⟨A, c, hv, hx⟩ := h
  refine ⟨A, c, hv, fun k hk => ?_⟩
  obtain ⟨b, o, hA, h1, h2, cs, fr, h3⟩ := hx k hk
  exact ⟨b, o, hA, (hb.cell (block_lt_of_cell h1)).trans h1, (hb.cell (block_lt_of_cell h2)).trans h2, cs, fr, (hb.block b (block_lt_of_cell h1)).trans h3⟩
theorem Tms.nil (w : World) : Tms w (.slice none 0 0) [] := ⟨none, 0, rfl, fun k h => (by simp at h)⟩
theorem Tms.at_ {w : World} {A : Option Addr} {n c k : Nat} {l : List (Int × Int)} (h : Tms w (.slice A n c) l) (hk : k < l.length) :
    ∃ b o, A = some ⟨b, o, none⟩ ∧ n = l.length ∧ w.cell? ⟨b, o + k * 2, none⟩ = some (.int .i64 l[k].1) ∧ w.cell? ⟨b, o + k * 2 + 1, none⟩ = some (.int .i64 l[k].2) := by
  obtain ⟨A', c', hv, hx⟩ := h
  injection hv with e1 e2 e3
  subst e1
  obtain ⟨b, o, hA, h1, h2, _⟩ := hx k hk
  exact ⟨b, o, hA, e2, h1, h2⟩
/-- blocks of terms are kept -/
theorem Tms.keepT {w w' : World} {v : Value} {l : List (Int × Int)} (h : Tms w v l) (hk : ∀ b, TB w b → w'.heap[b]? = w.heap[b]?) : Tms w' v l := by
  obtain ⟨A, c, hv, hx⟩ := h
  refine ⟨A, c, hv, fun k hk2 => ?_⟩
  obtain ⟨b, o, hA, h1, h2, h3⟩ := hx k hk2
  have hb := hk b h3
  refine ⟨b, o, hA, ?_, ?_, ?_⟩
  · rw [World.cell?_of_block (a := ⟨b, o + k * 2, none⟩) hb]; exact h1
  · rw [World.cell?_of_block (a := ⟨b, o + k * 2 + 1, none⟩) hb]; exact h2
  · obtain ⟨cs, fr, h4⟩ := h3
    exact ⟨cs, fr, hb.trans h4⟩
theorem Tms.cells {w : World} {b o n c k : Nat} {l : List (Int × Int)} (h : Tms w (.slice (some ⟨b, o, none⟩) n c) l) (hk : k < l.length) : w.cell? ⟨b, o + k * 2, none⟩ = some (.int .i64 l[k].1) ∧ w.cell? ⟨b, o + k * 2 + 1, none⟩ = some (.int .i64 l[k].2) := by
  obtain ⟨b', o', hA, _, h1, h2⟩ := h.at_ hk
  injection hA with hA
  injection hA with h3 h4
  subst h3 h4
  exact ⟨h1, h2⟩
section
variable {base : Nat} {w w' : World} {v : Value} {l : List (Int × Int)}
theorem OwnT.nil (base : Nat) (w : World) : OwnT base w (.slice none 0 0) [] := ⟨rfl, .inl ⟨rfl, rfl⟩⟩
theorem OwnT.form (h : OwnT base w v l) : ∃ A c, v = .slice A l.length c := by
  rcases h.2 with ⟨rfl, h0⟩ | ⟨g, cap, cur, rfl, _⟩
  · exact ⟨none, 0, by rw [h0]⟩
  · exact ⟨_, _, rfl⟩
theorem OwnT.form3 (h : OwnT base w v l) : ∃ A n c, v = .slice A n c := by
  obtain ⟨A, c, e⟩ := h.form
  exact ⟨A, _, c, e⟩
theorem OwnT.lt (h : OwnT base w v l) : ∀ k, v.ownBlock = some k → base ≤ k ∧ k < w.heap.size := by
  intro k hk
  rcases h.2 with ⟨rfl, h0⟩ | ⟨b, cap, cur, rfl, hg, hh, r⟩
  · simp [Value.ownBlock] at hk
  · simp [Value.ownBlock] at hk
    subst hk
    rcases Nat.lt_or_ge b w.heap.size with hlt | hge
    · exact ⟨hg, hlt⟩
    · rw [Array.getElem?_eq_none hge] at hh; cases hh
theorem OwnT.keep (h : OwnT base w v l) (hk : ∀ k, v.ownBlock = some k → w'.heap[k]? = w.heap[k]?) : OwnT base w' v l := by
  refine ⟨h.1, ?_⟩
  rcases h.2 with h0 | ⟨b, cap, cur, rfl, hg, hh, r⟩
  · exact .inl h0
  · exact .inr ⟨b, cap, cur, rfl, hg, (hk b rfl).trans hh, r⟩
theorem OwnT.below (h : OwnT base w v l) (hb : Below w.heap.size w w') : OwnT base w' v l := h.keep fun k hk => hb.block k (h.lt k hk).2
theorem OwnT.far {p : Addr} (h : OwnT base w v l) (hg : v.ownBlock ≠ some p.block) (u : Value) : OwnT base (w.setCell p u) v l := h.keep fun k hk => Below.heap_setCell w p u k (fun e => hg (by rw [← e]; exact hk))
theorem OwnT.drewN (h : OwnT base w v l) (n : Nat) : OwnT base (w.drewN n) v l := h
theorem OwnT.low (h : OwnT base w v l) {b2 : Nat} (hb : b2 ≤ base) : OwnT b2 w v l := by
  refine ⟨h.1, ?_⟩
  rcases h.2 with h0 | ⟨g, cap, cur, rfl, hg, r⟩
  · exact .inl h0
  · exact .inr ⟨g, cap, cur, rfl, Nat.le_trans hb hg, r⟩
/-- a block of another type lies apart -/
theorem OwnT.apart {g : Nat} {t : TypeId} {cs : List Value} (h : OwnT base w v l) (hg : Arr w g t cs) (hne : 67 ≠ t) : v.ownBlock ≠ some g := by
  intro hk
  rcases h.2 with ⟨rfl, h0⟩ | ⟨k, cap, cur, rfl, _, hh, r⟩
  · simp [Value.ownBlock] at hk
  · simp [Value.ownBlock] at hk
    subst hk
    unfold Arr at hg
    rw [hg] at hh
    injection hh with hh
    injection hh with _ h2 _
    exact hne h2.symm
theorem tflat_get : ∀ (l : List (Int × Int)) (k j : Nat) (h : k < l.length), j < 2 → (l.flatMap tc)[k * 2 + j]? = (tc l[k])[j]? := by
  intro l
  induction l with
  | nil => intro k j h; simp at h
  | cons m l ih =>
    intro k j h hj
    rw [List.flatMap_cons]
    cases k with
    | zero => rw [List.getElem?_append_left (by simp [tc]; omega)]; simp
    | succ k =>
      rw [List.getElem?_append_right (by simp [tc]; omega)]
      have := ih k j (by simpa using h) hj
      rw [show (k + 1) * 2 + j - (tc m).length = k * 2 + j from by simp [tc]; omega, this]
      simp
theorem OwnT.tms (h : OwnT base w v l) : Tms w v l := by
  rcases h.2 with ⟨rfl, h0⟩ | ⟨g, cap, cur, rfl, hg, hh, hn, _, hc, ht⟩
  · have : l = [] := List.eq_nil_of_length_eq_zero h0
    subst this
    exact Tms.nil w
  · have key : ∀ k (hk : k < l.length) j u, (tc l[k])[j]? = some u → w.cell? ⟨g, 0 + k * 2 + j, none⟩ = some u := by
      intro k hk j u hu
      have hj : j < 2 := (List.getElem?_eq_some_iff.1 hu).1
      rw [cell_of_row w g _ cur 67 (0, 0) hh, Nat.zero_add]
      have h1 : (cur.toList.take (l.length * 2))[k * 2 + j]? = some u := by rw [ht, tflat_get l k j hk hj, hu]
      rw [List.getElem?_take, if_pos (by omega)] at h1
      simpa using h1
    exact ⟨_, _, rfl, fun k hk => ⟨g, 0, rfl, key k hk 0 _ rfl, key k hk 1 _ rfl, _, _, hh⟩⟩
end
theorem info_term : (Tryz.prog.info? 67).map (fun i => (i.zero, i.size, i.bytes)) = some (some (.agg #[.int .i64 0, .int .i64 0]), 2, 16) := by kernel_rfl
/-- what has not been written: all but some blocks -/
structure Gr (base : Nat) (w w' : World) (z : Option Nat) : Prop where
  below : Below base w w'
  keep : ∀ k, k < w.heap.size → z ≠ some k → w'.heap[k]? = w.heap[k]?
theorem wpList_appT {w : World} {base : Nat} {v : Value} {l : List (Int × Int)} {ops : Array Oper} {rest : List Oper} {o : Oper} {a : Act} {Q : Exit → Act → World → Prop} (hgd : o.guard = none) (s x : Operand) (ho : o.op = .call { callee := .builtin .append, args := #[s, x], argTypes := #[38, 38] })
    (hv : a.eval s = v) (h : OwnT base w v l) {b : Nat} {m : Int × Int} (hx : a.eval x = .slice (some ⟨b, 0, none⟩) 1 1) (hu : Arr w b 67 (tc m)) (hlen : l.length ≤ 100000000) (hbase : base ≤ w.heap.size)
    (hK : ∀ v' w', OwnT base w' v' (l ++ [m]) → Gr base w w' v.ownBlock → wpList Tryz.prog ops Q rest (a.put o.dst v') w') : wpList Tryz.prog ops Q (o :: rest) a w := by
  obtain ⟨i, hi, hz, hs, hby⟩ := info_parts info_term
  have hcells : ∀ j q, (tc m)[j]? = some q → w.cell? ((⟨b, 0, none⟩ : Addr).add j) = some q := by
    intro j q hq
    have : (⟨b, 0, none⟩ : Addr).add j = ⟨b, j, none⟩ := by unfold Addr.add; split <;> simp_all
    rw [this, hu.cell]; exact hq
  obtain ⟨v', w', hrun, h2, h3, _, h5⟩ := run_append_own_at (P := Tryz.prog) w base 38 o.type 67 i _ 2 16 Tryz.underlying38 hi hz hs hby rfl (by decide) v l.length (l.flatMap tc) h ⟨b, 0, none⟩ 1 1 (tc m) rfl hcells
    (by intro q hq; simp [tc] at hq; rcases hq with rfl | rfl <;> rfl) (by unfold maxLen; omega) (by omega) hbase
  refine wpList_plain hgd fun _ hk => ?_
  unfold Oper.wp execOp
  simp only [ho, resolve, invoke, builtin, Sem.run_bind, Sem.run_pure, Result.andThen_ok, List.map_toArray, List.map_cons, List.map_nil, hv, hx, hrun]
  have hblk : ∀ k, v.ownBlock = some k → base ≤ k := fun k hk => (OwnT.lt h k hk).1
  refine hk _ _ (hK v' w' ?_ ⟨(Below.refl _ _).grown h3 hbase hblk, fun k hk hne => h3.block k hk (fun e => hne e.symm)⟩)
  unfold OwnT
  rw [List.length_append, List.flatMap_append]
  simpa using h2
/-- a polynomial as a value -/
def PolyV (w : World) (v : Value) (p : Pol) : Prop := ∃ A c, v = .agg #[.bool p.isNone, .slice A (p.getD []).length c] ∧ Tms w (.slice A (p.getD []).length c) (p.getD [])
theorem PolyV.below {w w' : World} {v : Value} {p : Pol} (h : PolyV w v p) (hb : Below w.heap.size w w') : PolyV w' v p := by
  obtain ⟨A, c, hv, hx⟩ := h
  exact ⟨A, c, hv, hx.below hb⟩
theorem PolyV.big (w : World) : PolyV w (.agg #[.bool true, .slice none 0 0]) none := ⟨none, 0, rfl, Tms.nil w⟩
theorem PolyV.zero (w : World) : PolyV w (.agg #[.bool false, .slice none 0 0]) (some []) := ⟨none, 0, rfl, Tms.nil w⟩
theorem PolyV.own {base : Nat} {w : World} {v : Value} {l : List (Int × Int)} (h : OwnT base w v l) : PolyV w (.agg #[.bool false, v]) (some l) := by
  have h1 := h.tms
  obtain ⟨A, c, rfl⟩ := h.form
  exact ⟨A, c, rfl, h1⟩
theorem info_poly : (Tryz.prog.info? 40).map (·.size) = some 2 := by kernel_rfl
end Go.Proofs.YtbkgpfalljgdcaaGreatDoor

namespace Go.Proofs.YtbkgpfalljgdcaaGreatDoor
open Go.RowKit
set_option linter.unusedVariables false

abbrev IsB (B b : Nat) (bs : List Value) (w : World) : Prop := Lib.IsBuilder 71 5 B b bs w
set_option maxHeartbeats 1000000 in
set_option maxRecDepth 100000 in
theorem bld_used (b : Nat) (w : World) (h0 : w.cell? ⟨b, 0, none⟩ = some (.pointer (some ⟨b, 0, none⟩))) :
    Calls Tryz.prog 49 #[.pointer (some ⟨b, 0, none⟩)] w fun e w' => e = .returned (.tuple #[]) ∧ w' = w := by
  obtain ⟨j, hj, _⟩ := Option.map_eq_some_iff.1 Tryz.Builder_Extra_169.sizeBuilder
  go_enter Tryz.func49, Tryz.ntmps49
  go_wp2_with fail
  rw [Lib.run_neq_ptr_same w _ Tryz.underlying68 hj]
  go_wp2_with fail
  go_end0
  exact ⟨rfl, rfl⟩
set_option maxHeartbeats 1000000 in
set_option maxRecDepth 100000 in
theorem bld_fresh (b : Nat) (w : World) (h0 : w.cell? ⟨b, 0, none⟩ = some (.pointer none)) (hsh : w.shape? b = some (71, 2)) (hfz : w.frozen? ⟨b, 0, none⟩ = false) :
    Calls Tryz.prog 49 #[.pointer (some ⟨b, 0, none⟩)] w fun e w' => e = .returned (.tuple #[]) ∧ w' = w.setCell ⟨b, 0, none⟩ (.pointer (some ⟨b, 0, none⟩)) := by
  obtain ⟨j, hj, hjs⟩ := Option.map_eq_some_iff.1 Tryz.Builder_Extra_169.sizeBuilder
  go_enter Tryz.func49, Tryz.ntmps49
  go_wp2_with fail
  rw [Lib.run_to_unsafe w ⟨b, 0, none⟩ Tryz.underlying68 Tryz.underlying105 hj (by rw [hjs]; decide) hsh (Nat.zero_lt_succ 1)]
  simp only [Result.andThen]
  rw [Oper.upon_value]
  go_wp2_with fail
  rw [run_callFunc_extern Tryz.func63 (by kernel_rfl) (by kernel_rfl) (by kernel_rfl) (e := Extern.AbiNoEscape.same) (by kernel_rfl)]
  rw [Lib.run_noEscape]
  simp only [Result.andThen]
  rw [Oper.upon_value]
  go_wp2_with fail
  rw [Lib.run_from_unsafe w ⟨b, 0, none⟩ Tryz.underlying105 Tryz.underlying68 hj hsh Tryz.Builder_Extra_169.liesBuilder]
  simp only [Result.andThen]
  rw [Oper.upon_value]
  go_wp2_with fail
  go_end0
  exact ⟨rfl, rfl⟩
/-- blocks of other types than bytes are kept, but for the builder's own -/
def KeepB (b : Nat) (w w' : World) : Prop := ∀ g t cs, Arr w g t cs → t ≠ 5 → g ≠ b → Arr w' g t cs
theorem KeepB.refl (b : Nat) (w : World) : KeepB b w w := fun _ _ _ h _ _ => h
theorem KeepB.set {b : Nat} {w w' : World} (h : KeepB b w w') (i : Nat) (v : Value) : KeepB b w (w'.setCell ⟨b, i, none⟩ v) := fun g t cs ha ht hg => (Below.heap_setCell w' ⟨b, i, none⟩ v g hg).trans (h g t cs ha ht hg)
theorem KeepB.trans {b : Nat} {w1 w2 w3 : World} (h : KeepB b w1 w2) (k : KeepB b w2 w3) : KeepB b w1 w3 := fun g t cs ha ht hg => k g t cs (h g t cs ha ht hg) ht hg
theorem KeepB.below {b : Nat} {w1 w2 w3 : World} (h : KeepB b w1 w2) (k : Below w2.heap.size w2 w3) : KeepB b w1 w3 := fun g t cs ha ht hg => (h g t cs ha ht hg).below k (h g t cs ha ht hg).lt
theorem bld_apart {base n g : Nat} {w : World} {v : Value} {xs cs : List Value} {t : TypeId} (h : w.ownsRow base 5 1 v n xs) (hg : Arr w g t cs) (hne : t ≠ 5) : v.ownBlock ≠ some g := by
  intro hk
  rcases h.2 with ⟨rfl, h0⟩ | ⟨k, cap, cur, rfl, _, hh, r⟩
  · simp [Value.ownBlock] at hk
  · simp [Value.ownBlock] at hk
    subst hk
    unfold Arr at hg
    rw [hg] at hh
    injection hh with hh
    injection hh with _ h2 _
    exact hne h2
theorem KeepB.grown {b base n : Nat} {w w' w'' : World} {v : Value} {xs : List Value} (h : KeepB b w w') (ho : w'.ownsRow base 5 1 v n xs) (hg : w'.grownBy w'' v.ownBlock) : KeepB b w w'' := fun g t cs ha ht hgb =>
  (hg.block g (h g t cs ha ht hgb).lt (fun e => bld_apart ho (h g t cs ha ht hgb) ht e.symm)).trans (h g t cs ha ht hgb)
theorem bld_check (B b : Nat) (bs : List Value) (w : World) (h : IsB B b bs w) :
    Calls Tryz.prog 49 #[.pointer (some ⟨b, 0, none⟩)] w fun e w' => e = .returned (.tuple #[]) ∧ (Lib.BuilderAt 71 5 B b (.pointer (some ⟨b, 0, none⟩)) bs w' ∧ Below B w w' ∧ KeepB b w w') := by
  rcases h with h | h
  · refine (bld_fresh b w h.cell0 h.shape h.frozen0).mono ?_
    rintro e w' ⟨rfl, rfl⟩
    exact ⟨rfl, h.used _, (Below.refl B w).setCell (p := ⟨b, 0, none⟩) h.1 _, (KeepB.refl b w).set 0 _⟩
  · refine (bld_used b w h.cell0).mono ?_
    rintro e w' ⟨rfl, rfl⟩
    exact ⟨rfl, h, Below.refl B _, KeepB.refl b _⟩
theorem bld_slice {base : Nat} {w : World} {v : Value} {n : Nat} {xs : List Value} (h : w.ownsRow base 5 1 v n xs) : ∃ A n' c, v = .slice A n' c := by
  rcases h.2 with ⟨hv, _⟩ | ⟨g, cap, cur, hv, _⟩
  · exact ⟨_, _, _, hv⟩
  · exact ⟨_, _, _, hv⟩
theorem bld_lt {w : World} {b : Nat} {o : Obj} (h : w.heap[b]? = some o) : b < w.heap.size := by
  rcases Nat.lt_or_ge b w.heap.size with q | q
  · exact q
  · rw [Array.getElem?_eq_none q] at h; cases h
theorem bld_c0 {w : World} {b : Nat} {p v : Value} (h : w.heap[b]? = some (.cells #[p, v] 71 (0, 0))) : w.cell? ⟨b, 0, none⟩ = some p ∧ w.cell? ⟨b, 1, none⟩ = some v ∧ w.frozen? ⟨b, 1, none⟩ = false :=
  ⟨by rw [Lib.cell_of_heap h]; rfl, by rw [Lib.cell_of_heap h]; rfl, Lib.frozen_of_heap h 1⟩
set_option maxHeartbeats 2000000 in
set_option maxRecDepth 100000 in
theorem bld_string (B b : Nat) (bs : List Value) (s : ByteArray) (w : World) (h : IsB B b bs w) (hlen : bs.length + s.size ≤ 100000000000) (hBw : B ≤ w.heap.size) :
    Calls Tryz.prog 32 #[.pointer (some ⟨b, 0, none⟩), .string s] w fun e w' => e = .returned (.tuple #[.int .i64 s.size, .nilIface]) ∧ IsB B b (bs ++ Lib.strCells s) w' ∧ Below B w w' ∧ KeepB b w w' := by
  have HC := Lib.hid (bld_check B b bs w h)
  obtain ⟨i0, hi, hz0, hz1, hz2⟩ := info_parts Tryz.Builder_Extra_169.infoByte
  clear h
  go_enter Tryz.func32, Tryz.ntmps32
  go_wp2_with fail
  refine HC.out.mono ?_
  rintro e w1 ⟨rfl, ⟨hB, v, hbk, hown, hne⟩, hb1, hk1⟩
  obtain ⟨c0, c1, _⟩ := bld_c0 hbk
  have hs1 := hb1.size
  go_wp2_with (at_builtin; refine Lib.wpList_append_own_string _ rfl _ _ 69 9 rfl B 5 i0 Tryz.underlying69 Tryz.underlying9 hi hz0 hz1 hz2 _ _ _ rfl hown s rfl (by unfold maxLen; omega) (by omega) (by omega) ?_)
  intro v' w2 hown' hgrow _
  have hb2 : w2.heap[b]? = some (.cells #[.pointer (some ⟨b, 0, none⟩), v] 71 (0, 0)) := (hgrow.block b (bld_lt hbk) (fun e => hne e.symm)).trans hbk
  obtain ⟨d0, d1, f1⟩ := bld_c0 hb2
  have HK := Lib.hid ((hk1.grown hown hgrow).set 1 v')
  have HO := Lib.hid (And.intro hown' (And.intro hb2 ((hb1.grown hgrow (by omega) (fun k hk => (hown.lt k hk).1)).setCell (p := ⟨b, 1, none⟩) hB v')))
  obtain ⟨A', n', c', rfl⟩ := bld_slice hown'
  clear hown hown' hgrow hbk hb2 c0 c1 hb1 hk1
  go_wp2_with fail
  go_ret2
  exact ⟨rfl, .inr (Lib.BuilderAt.put (T := 71) (e := 5) hB HO.out.2.1 (bs' := bs ++ Lib.strCells s) (by simpa [Lib.strCells_length] using HO.out.1) (by decide)), HO.out.2.2, HK.out⟩
set_option maxHeartbeats 2000000 in
set_option maxRecDepth 100000 in
theorem bld_byte (B b : Nat) (bs : List Value) (x : Int) (w : World) (h : IsB B b bs w) (hlen : bs.length ≤ 100000000000) (hBw : B ≤ w.heap.size) :
    Calls Tryz.prog 31 #[.pointer (some ⟨b, 0, none⟩), .int .u8 x] w fun e w' => e = .returned .nilIface ∧ IsB B b (bs ++ [.int .u8 x]) w' ∧ Below B w w' ∧ KeepB b w w' := by
  have HC := Lib.hid (bld_check B b bs w h)
  obtain ⟨i0, hi, hz0, hz1, hz2⟩ := info_parts Tryz.Builder_Extra_169.infoByte
  clear h
  go_enter Tryz.func31, Tryz.ntmps31
  go_wp2_with fail
  refine HC.out.mono ?_
  rintro e w1 ⟨rfl, ⟨hB, v, hbk, hown, hne⟩, hb1, hk1⟩
  obtain ⟨c0, c1, _⟩ := bld_c0 hbk
  have hs1 := hb1.size
  have hlb := bld_lt hbk
  go_wp2_with (at_builtin; refine wpList_append_own _ rfl _ _ 69 rfl B 5 i0 (.int .u8 0) 1 1 Tryz.underlying69 hi hz0 hz1 hz2 rfl (by decide) _ _ _ rfl (hown.alloc _) ⟨w1.heap.size, 0, none⟩ 1 1 [.int .u8 x] rfl rfl ?c1 ?c2 ?c3 ?c4 ?c5 ?_)
  case c1 =>
    intro j u hj
    match j, hj with
    | 0, hj => simp at hj; subst hj; simp [Addr.add]
  case c2 => intro u hu; simp at hu; subst hu; rfl
  case c3 => unfold maxLen; omega
  case c4 => omega
  case c5 => simp; omega
  intro v' w2 hown' hgrow _
  have hb2 : w2.heap[b]? = some (.cells #[.pointer (some ⟨b, 0, none⟩), v] 71 (0, 0)) := ((hgrow.block b (by simp; omega) (fun e => hne e.symm)).trans (Lib.alloc_old w1 _ b hlb)).trans hbk
  obtain ⟨d0, d1, f1⟩ := bld_c0 hb2
  have HK := Lib.hid (((hk1.below ((Below.refl _ _).alloc (Nat.le_refl _) _)).grown (hown.alloc _) hgrow).set 1 v')
  have HO := Lib.hid (And.intro hown' (And.intro hb2 (((hb1.alloc (by omega) _).grown hgrow (by simp; omega) (fun k hk => (hown.lt k hk).1)).setCell (p := ⟨b, 1, none⟩) hB v')))
  obtain ⟨A', n', c', rfl⟩ := bld_slice hown'
  clear hown hown' hgrow hbk hb2 c0 c1 hb1 hk1
  go_wp2_with fail
  go_ret
  exact ⟨rfl, .inr (Lib.BuilderAt.put (T := 71) (e := 5) hB HO.out.2.1 (bs' := bs ++ [.int .u8 x]) (by simpa using HO.out.1) (by decide)), HO.out.2.2, HK.out⟩
end Go.Proofs.YtbkgpfalljgdcaaGreatDoor
