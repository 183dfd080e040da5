/- Words for memory that all walks of this seat use: a block that is a known row, a slice that reads as a list of integers. -/
/- Laurent polynomials as sorted lists of terms (exponent, coefficient): plain. -/
/- More words: results that lie in memory. -/
/- Laurent polynomials in memory: slices of terms, polynomials as values. -/
/- laurent: within, the closure put of combine. -/
/- Polynomials in two variables as sorted lists of terms ((a, z), coefficient): plain. -/
/- Polynomials in two variables: products of lists of terms, bounds: plain. -/
/- A region that draws its order, by facts: one obligation for each operation, whatever the order. -/
/- Slices of elements of some cells that the call owns, and a region that draws its order and builds one by appends, a literal beside them. -/
/- Polynomials in two variables in memory. -/
/- Fox derivatives of words: plain. -/
/- A region that draws its order, whose operations read or call quietly, but for a store at its end: each operation is walked once, by a table of values. -/
/- Sums of coefficients: plain. -/
import Derived.Tactics
import Derived.Tactics2
import Derived.WalkKit
import Derived.LoopTactic
import Derived.RegionTactic
import Derived.BigQuiet
import Derived.Deep.QuietTactic
import Derived.Deep.Draws
import Derived.Laws.OwnMore
import Derived.Laws.MakeOwn
import Derived.Laws.Rows
import Derived.Lib.Hide
import Derived.Below
import Derived.Laws.ResultCell
import Derived.Test.YtnmidhlghhephaaGreatDoorChecked
import Derived.Maps.AppendAt
import Derived.Deep.AppendLies
import Derived.OwnWalk
import Derived.Shelf.Abstract
import Derived.Orders
namespace Go.Proofs.YtnmidhlghhephaaGreatDoor
set_option linter.unusedVariables false
open Go.RowKit
/-- A list as an array, closed to the walk. -/
def rowOf (cs : List Value) : Array Value := cs.toArray
theorem rowOf_get (cs : List Value) (i : Nat) : (rowOf cs)[i]? = cs[i]? := by simp [rowOf]
theorem bdrewN {B : Nat} {a w : World} (h : Below B a w) (n : Nat) : Below B a (w.drewN n) := ⟨h.os, h.tape, h.output, h.size, h.block⟩
/-- Block b of the world w is the row cs of element type t, nothing in it frozen. -/
def Arr (w : World) (b : Nat) (t : TypeId) (cs : List Value) : Prop := w.heap[b]? = some (.cells (rowOf cs) t (0, 0))
section
variable {w w' : World} {b : Nat} {t : TypeId} {cs : List Value}
theorem Arr.lt (h : Arr w b t cs) : b < w.heap.size := by
  rcases Nat.lt_or_ge b w.heap.size with hlt | hge
  · exact hlt
  · unfold Arr at h; rw [Array.getElem?_eq_none hge] at h; cases h
theorem Arr.cell (h : Arr w b t cs) (i : Nat) : w.cell? ⟨b, i, none⟩ = cs[i]? := by
  rw [cell_of_row w b i _ t (0, 0) h, rowOf_get]
theorem Arr.frozen (h : Arr w b t cs) (i : Nat) : w.frozen? ⟨b, i, none⟩ = false := frozen_of_row w b i _ t h
theorem Arr.new (w : World) (t : TypeId) (cs : List Value) : Arr (w.alloc (.cells (rowOf cs) t)) w.heap.size t cs := heap_alloc_new w _
theorem Arr.newAt (w : World) (t : TypeId) (cs : List Value) (k : Nat) (hk : k = w.heap.size) : Arr (w.alloc (.cells (rowOf cs) t)) k t cs := by subst hk; exact Arr.new w t cs
theorem Arr.drew (h : Arr w b t cs) : Arr w.drew b t cs := h
theorem Arr.drewN (h : Arr w b t cs) (n : Nat) : Arr (w.drewN n) b t cs := h
theorem Arr.alloc (h : Arr w b t cs) (o : Obj) : Arr (w.alloc o) b t cs := (Below.heap_alloc w o b h.lt).trans h
theorem Arr.set (h : Arr w b t cs) (i : Nat) (u : Value) : Arr (w.setCell ⟨b, i, none⟩ u) b t (cs.set i u) := by
  unfold Arr at h ⊢
  rw [heap_setCell_same w b i _ t u h]
  simp [rowOf]
theorem Arr.far (h : Arr w b t cs) {p : Addr} (hp : b ≠ p.block) (u : Value) : Arr (w.setCell p u) b t cs := (Below.heap_setCell w p u b hp).trans h
theorem Arr.below {B : Nat} (h : Arr w b t cs) (hb : Below B w w') (hg : b < B) : Arr w' b t cs := (hb.block b hg).trans h
end
/-- The value v is a slice that reads as the integers xs in the world w. -/
def Ints (w : World) (v : Value) (xs : List Int) : Prop :=
  ∃ A c, v = .slice A xs.length c ∧ xs.length ≤ c ∧ ∀ k x, xs[k]? = some x → ∃ b o, A = some ⟨b, o, none⟩ ∧ w.cell? ⟨b, o + k, none⟩ = some (.int .i64 x)
section
variable {w w' : World} {v : Value} {xs : List Int}
theorem Ints.keep (h : Ints w v xs) (hk : ∀ b o, b < w.heap.size → w'.cell? ⟨b, o, none⟩ = w.cell? ⟨b, o, none⟩) : Ints w' v xs := by
  obtain ⟨A, c, hv, hc, hx⟩ := h
  refine ⟨A, c, hv, hc, fun k x hkx => ?_⟩
  obtain ⟨b, o, hA, hcell⟩ := hx k x hkx
  exact ⟨b, o, hA, (hk b (o + k) (block_lt_of_cell hcell)).trans hcell⟩
theorem Ints.below (h : Ints w v xs) (hb : Below w.heap.size w w') : Ints w' v xs := h.keep fun _ _ hlt => hb.cell hlt
theorem Ints.drew (h : Ints w v xs) : Ints w.drew v xs := h
theorem Ints.drewN (h : Ints w v xs) (n : Nat) : Ints (w.drewN n) v xs := h
theorem Ints.alloc (h : Ints w v xs) (o : Obj) : Ints (w.alloc o) v xs := h.below ((Below.refl _ _).alloc (Nat.le_refl _) o)
theorem Ints.at_ {A : Option Addr} {n c k : Nat} (h : Ints w (.slice A n c) xs) (hk : k < xs.length) :
    ∃ b o, A = some ⟨b, o, none⟩ ∧ b < w.heap.size ∧ w.cell? ⟨b, o + k, none⟩ = some (.int .i64 xs[k]) := by
  obtain ⟨A', c', hv, hc, hx⟩ := h
  injection hv with h1 h2 h3
  subst h1
  obtain ⟨b, o, hA, hcell⟩ := hx k xs[k] (List.getElem?_eq_getElem hk)
  exact ⟨b, o, hA, block_lt_of_cell hcell, hcell⟩
theorem Ints.of_arr {b : Nat} {t : TypeId} (h : Arr w b t (xs.map (Value.int .i64))) : Ints w (.slice (some ⟨b, 0, none⟩) xs.length xs.length) xs := by
  refine ⟨_, _, rfl, Nat.le_refl _, fun k x hk => ⟨b, 0, rfl, ?_⟩⟩
  rw [Nat.zero_add, h.cell, List.getElem?_map, hk]; rfl
theorem Ints.nil (w : World) : Ints w (.slice none 0 0) [] := ⟨none, 0, rfl, Nat.le_refl _, fun k x h => by simp at h⟩
end
end Go.Proofs.YtnmidhlghhephaaGreatDoor

namespace Go.Proofs.YtnmidhlghhephaaGreatDoor
set_option linter.unusedVariables false
/-- the coefficient at an exponent -/
def cf : List (Int × Int) → Int → Int
  | [], _ => 0
  | t :: l, e => (if t.1 = e then t.2 else 0) + cf l e
theorem cf_nil (e : Int) : cf [] e = 0 := rfl
theorem cf_cons (t : Int × Int) (l : List (Int × Int)) (e : Int) : cf (t :: l) e = (if t.1 = e then t.2 else 0) + cf l e := rfl
theorem cf_append (l m : List (Int × Int)) (e : Int) : cf (l ++ m) e = cf l e + cf m e := by
  induction l with
  | nil => simp [cf]
  | cons t l ih => rw [List.cons_append, cf_cons, cf_cons, ih]; omega
theorem cf_one (t : Int × Int) (e : Int) : cf [t] e = if t.1 = e then t.2 else 0 := by rw [cf_cons, cf_nil]; omega
theorem cf_out {l : List (Int × Int)} {e : Int} (h : ∀ t ∈ l, t.1 ≠ e) : cf l e = 0 := by
  induction l with
  | nil => rfl
  | cons t l ih => rw [cf_cons, if_neg (h t (List.mem_cons_self ..)), ih (fun s hs => h s (List.mem_cons_of_mem _ hs))]; rfl
/-- sorted by exponents -/
def Srt (l : List (Int × Int)) : Prop := l.Pairwise fun a b => a.1 < b.1
structure Can (l : List (Int × Int)) : Prop where
  srt : Srt l
  nz : ∀ t ∈ l, t.2 ≠ 0
theorem Can.nil : Can [] := ⟨List.Pairwise.nil, fun t h => by cases h⟩
theorem cf_mem {l : List (Int × Int)} (h : Srt l) {t : Int × Int} (ht : t ∈ l) : cf l t.1 = t.2 := by
  induction l with
  | nil => cases ht
  | cons s l ih =>
    obtain ⟨h1, h2⟩ := List.pairwise_cons.1 h
    rw [cf_cons]
    rcases List.mem_cons.1 ht with rfl | hm
    · rw [if_pos rfl, cf_out (fun s hs => by have := h1 s hs; omega)]; omega
    · have := h1 t hm
      rw [if_neg (by omega), ih h2 hm]; omega
theorem Can.tail {t : Int × Int} {l : List (Int × Int)} (h : Can (t :: l)) : Can l := ⟨(List.pairwise_cons.1 h.srt).2, fun s hs => h.nz s (List.mem_cons_of_mem _ hs)⟩
theorem Can.ext : ∀ {l m : List (Int × Int)}, Can l → Can m → (∀ e, cf l e = cf m e) → l = m
  | [], [], _, _, _ => rfl
  | [], t :: m, _, k, he => by
    have h1 := cf_mem k.srt (List.mem_cons_self (a := t) (l := m))
    have h2 := k.nz t (List.mem_cons_self ..)
    rw [← he] at h1
    exact absurd h1.symm h2
  | s :: l, [], h, _, he => by
    have h1 := cf_mem h.srt (List.mem_cons_self (a := s) (l := l))
    have h2 := h.nz s (List.mem_cons_self ..)
    rw [he] at h1
    exact absurd h1.symm h2
  | s :: l, t :: m, h, k, he => by
    have a1 := (List.pairwise_cons.1 h.srt).1
    have b1 := (List.pairwise_cons.1 k.srt).1
    have a2 := cf_mem h.srt (List.mem_cons_self (a := s) (l := l))
    have b2 := cf_mem k.srt (List.mem_cons_self (a := t) (l := m))
    have a3 := h.nz s (List.mem_cons_self ..)
    have b3 := k.nz t (List.mem_cons_self ..)
    have e1 : s.1 = t.1 := by
      rcases Int.lt_trichotomy s.1 t.1 with q | q | q
      · rw [he, cf_out (fun x hx => by rcases List.mem_cons.1 hx with rfl | hx; omega; have := b1 x hx; omega)] at a2
        exact absurd a2.symm a3
      · exact q
      · rw [← he, cf_out (fun x hx => by rcases List.mem_cons.1 hx with rfl | hx; omega; have := a1 x hx; omega)] at b2
        exact absurd b2.symm b3
    have e2 : s = t := by
      refine Prod.ext e1 ?_
      rw [← a2, ← b2, he, e1]
    subst e2
    rw [Can.ext h.tail k.tail (fun e => by have := he e; rw [cf_cons, cf_cons] at this; omega)]
theorem Srt.snoc {l : List (Int × Int)} (h : Srt l) {t : Int × Int} (ht : ∀ s ∈ l, s.1 < t.1) : Srt (l ++ [t]) :=
  List.pairwise_append.2 ⟨h, List.pairwise_singleton _ _, fun a ha b hb => by rw [List.mem_singleton.1 hb]; exact ht a ha⟩
theorem Can.snoc {l : List (Int × Int)} (h : Can l) {t : Int × Int} (ht : ∀ s ∈ l, s.1 < t.1) (h0 : t.2 ≠ 0) : Can (l ++ [t]) :=
  ⟨h.srt.snoc ht, fun s hs => by
    rcases List.mem_append.1 hs with hs | hs
    · exact h.nz s hs
    · rw [List.mem_singleton.1 hs]; exact h0⟩
theorem cf_ne {l : List (Int × Int)} {e : Int} (h : cf l e ≠ 0) : ∃ t ∈ l, t.1 = e := by
  apply Classical.byContradiction
  intro hn
  exact h (cf_out fun t ht he => hn ⟨t, ht, he⟩)
theorem Can.ne {l : List (Int × Int)} (k : Can l) {t : Int × Int} (ht : t ∈ l) : cf l t.1 ≠ 0 := by rw [cf_mem k.srt ht]; exact k.nz t ht
/-- within the limits of the program -/
structure Lim (l : List (Int × Int)) : Prop where
  co : ∀ t ∈ l, -1125899906842624 ≤ t.2 ∧ t.2 ≤ 1125899906842624
  ex : ∀ t ∈ l, -1048576 ≤ t.1 ∧ t.1 ≤ 1048576
theorem Lim.nil : Lim [] := ⟨fun t h => (by cases h), fun t h => (by cases h)⟩
theorem srt_len : ∀ {l : List (Int × Int)} {a b : Int}, Srt l → (∀ t ∈ l, a ≤ t.1 ∧ t.1 ≤ b) → a ≤ b + 1 → (l.length : Int) ≤ b - a + 1
  | [], a, b, _, _, h => by simp; omega
  | t :: l, a, b, h, hb, _ => by
    obtain ⟨h1, h2⟩ := List.pairwise_cons.1 h
    have h3 := hb t (List.mem_cons_self ..)
    have := srt_len (a := t.1 + 1) (b := b) h2 (fun s hs => ⟨by have := h1 s hs; omega, (hb s (List.mem_cons_of_mem _ hs)).2⟩) (by omega)
    rw [List.length_cons]; omega
theorem Lim.len {l : List (Int × Int)} (h : Lim l) (k : Can l) : l.length ≤ 2097153 := by
  have := srt_len k.srt h.ex (by omega)
  omega
theorem Lim.cf {l : List (Int × Int)} (h : Lim l) (k : Can l) (e : Int) : -1125899906842624 ≤ Go.Proofs.YtnmidhlghhephaaGreatDoor.cf l e ∧ Go.Proofs.YtnmidhlghhephaaGreatDoor.cf l e ≤ 1125899906842624 := by
  by_cases h0 : Go.Proofs.YtnmidhlghhephaaGreatDoor.cf l e = 0
  · rw [h0]; omega
  · obtain ⟨t, ht, rfl⟩ := cf_ne h0
    rw [cf_mem k.srt ht]; exact h.co t ht
/-- merging: the state after i terms of p and j terms of q -/
structure Mrg (f : Int → Int → Int) (p q : List (Int × Int)) (i j : Nat) (R : List (Int × Int)) : Prop where
  can : Can R
  eq : ∀ e, cf R e = f (cf (p.take i) e) (cf (q.take j) e)
  lt : ∀ t ∈ R, (∀ s ∈ p.drop i, t.1 < s.1) ∧ (∀ s ∈ q.drop j, t.1 < s.1)
  pq : ∀ s ∈ p.take i, ∀ t ∈ q.drop j, s.1 < t.1
  qp : ∀ s ∈ q.take j, ∀ t ∈ p.drop i, s.1 < t.1
  len : R.length ≤ i + j
def putR (R : List (Int × Int)) (e v : Int) : List (Int × Int) := if v = 0 then R else R ++ [(e, v)]
section
variable {f : Int → Int → Int} {p q R : List (Int × Int)} {i j : Nat}
theorem Mrg.start (h0 : f 0 0 = 0) : Mrg f p q 0 0 [] := ⟨Can.nil, fun e => (by simp [cf, h0]), fun t h => (by cases h), fun s h => (by simp at h), fun s h => (by simp at h), by simp⟩
theorem take_snoc' {l : List (Int × Int)} {i : Nat} (h : i < l.length) : l.take (i + 1) = l.take i ++ [l[i]] := by
  rw [List.take_add_one, List.getElem?_eq_getElem h]; rfl
theorem srt_drop {l : List (Int × Int)} (h : Srt l) {i : Nat} (hi : i < l.length) : (∀ s ∈ l.take i, s.1 < l[i].1) ∧ (∀ s ∈ l.drop (i + 1), l[i].1 < s.1) := by
  have e : l = l.take i ++ (l[i] :: l.drop (i + 1)) := by rw [← List.drop_eq_getElem_cons hi, List.take_append_drop]
  have h2 : (l.take i ++ (l[i] :: l.drop (i + 1))).Pairwise (fun a b => a.1 < b.1) := by rw [← e]; exact h
  obtain ⟨_, b, c⟩ := List.pairwise_append.1 h2
  exact ⟨fun s hs => c s hs _ (List.mem_cons_self ..), (List.pairwise_cons.1 b).1⟩
theorem Mrg.put (h : Mrg f p q i j R) (h0 : f 0 0 = 0) {i' j' : Nat} {e0 a b : Int} (hi : i ≤ i') (hj : j ≤ j') (hij : i + j < i' + j')
    (hp : ∀ e, cf (p.take i') e = cf (p.take i) e + if e0 = e then a else 0) (hq : ∀ e, cf (q.take j') e = cf (q.take j) e + if e0 = e then b else 0)
    (zp : ∀ s ∈ p.take i, s.1 < e0) (zq : ∀ s ∈ q.take j, s.1 < e0) (gp : ∀ s ∈ p.drop i', e0 < s.1) (gq : ∀ s ∈ q.drop j', e0 < s.1)
    (mp : ∀ s ∈ p.take i', s ∈ p.take i ∨ s.1 = e0) (mq : ∀ s ∈ q.take j', s ∈ q.take j ∨ s.1 = e0) : Mrg f p q i' j' (putR R e0 (f a b)) := by
  have hd : ∀ (l : List (Int × Int)) {a b : Nat}, a ≤ b → ∀ s ∈ l.drop b, s ∈ l.drop a := fun l a b hab s hs => by
    rw [show b = a + (b - a) by omega, ← List.drop_drop] at hs
    exact List.mem_of_mem_drop hs
  have c0 : cf (p.take i) e0 = 0 := cf_out fun t ht => by have := zp t ht; omega
  have c1 : cf (q.take j) e0 = 0 := cf_out fun t ht => by have := zq t ht; omega
  have cR : cf R e0 = 0 := by rw [h.eq, c0, c1, h0]
  have lR : ∀ t ∈ R, t.1 < e0 := fun t ht => by
    have h1 := h.can.ne ht
    rw [h.eq] at h1
    by_cases e1 : cf (p.take i) t.1 = 0
    · by_cases e2 : cf (q.take j) t.1 = 0
      · rw [e1, e2, h0] at h1; exact absurd rfl h1
      · obtain ⟨s, hs, e⟩ := cf_ne e2
        rw [← e]; exact zq s hs
    · obtain ⟨s, hs, e⟩ := cf_ne e1
      rw [← e]; exact zp s hs
  have mem : ∀ t ∈ putR R e0 (f a b), t ∈ R ∨ t.1 = e0 := fun t ht => by
    unfold putR at ht
    split at ht
    · exact .inl ht
    · rcases List.mem_append.1 ht with h | h
      · exact .inl h
      · exact .inr (by rw [List.mem_singleton.1 h])
  refine ⟨?_, fun e => ?_, fun t ht => ?_, fun s hs t ht => ?_, fun s hs t ht => ?_, ?_⟩
  · unfold putR
    split
    · exact h.can
    · next hv => exact h.can.snoc lR hv
  · have e1 : cf (putR R e0 (f a b)) e = cf R e + if e0 = e then f a b else 0 := by
      unfold putR
      split
      · next hv => rw [hv]; split <;> omega
      · rw [cf_append, cf_one]
    rw [e1, hp, hq]
    by_cases he : e0 = e
    · subst he; rw [if_pos rfl, if_pos rfl, if_pos rfl, cR, c0, c1, Int.zero_add, Int.zero_add, Int.zero_add]
    · rw [if_neg he, if_neg he, if_neg he, Int.add_zero, Int.add_zero, Int.add_zero, h.eq]
  · rcases mem t ht with ht | ht
    · exact ⟨fun s hs => (h.lt t ht).1 s (hd p hi s hs), fun s hs => (h.lt t ht).2 s (hd q hj s hs)⟩
    · exact ⟨fun s hs => by rw [ht]; exact gp s hs, fun s hs => by rw [ht]; exact gq s hs⟩
  · rcases mp s hs with hs | hs
    · exact h.pq s hs t (hd q hj t ht)
    · rw [hs]; exact gq t ht
  · rcases mq s hs with hs | hs
    · exact h.qp s hs t (hd p hi t ht)
    · rw [hs]; exact gp t ht
  · have := h.len
    unfold putR
    split
    · omega
    · rw [List.length_append, List.length_singleton]; omega
theorem cf_take_succ {l : List (Int × Int)} {i : Nat} (h : i < l.length) (e : Int) : cf (l.take (i + 1)) e = cf (l.take i) e + if l[i].1 = e then l[i].2 else 0 := by
  rw [take_snoc' h, cf_append, cf_one]
theorem mem_take_succ {l : List (Int × Int)} {i : Nat} (h : i < l.length) : ∀ s ∈ l.take (i + 1), s ∈ l.take i ∨ s.1 = l[i].1 := fun s hs => by
  rw [take_snoc' h] at hs
  rcases List.mem_append.1 hs with hs | hs
  · exact .inl hs
  · exact .inr (by rw [List.mem_singleton.1 hs])
theorem mem_drop_self {l : List (Int × Int)} {i : Nat} (h : i < l.length) : l[i] ∈ l.drop i := by
  rw [List.drop_eq_getElem_cons h]; exact List.mem_cons_self ..
theorem srt_ge {l : List (Int × Int)} (h : Srt l) {i : Nat} (hi : i < l.length) : ∀ s ∈ l.drop i, l[i].1 ≤ s.1 := fun s hs => by
  rw [List.drop_eq_getElem_cons hi] at hs
  rcases List.mem_cons.1 hs with rfl | hs
  · omega
  · have := (srt_drop h hi).2 s hs; omega
theorem Mrg.left (h : Mrg f p q i j R) (h0 : f 0 0 = 0) (kp : Srt p) (kq : Srt q) (hi : i < p.length) (hc : ∀ s ∈ q.drop j, p[i].1 < s.1) : Mrg f p q (i + 1) j (putR R p[i].1 (f p[i].2 0)) :=
  h.put h0 (by omega) (Nat.le_refl _) (by omega) (cf_take_succ hi) (fun e => by split <;> omega) (srt_drop kp hi).1 (fun s hs => h.qp s hs _ (mem_drop_self hi)) (srt_drop kp hi).2 hc (mem_take_succ hi) (fun s hs => .inl hs)
theorem Mrg.right (h : Mrg f p q i j R) (h0 : f 0 0 = 0) (kp : Srt p) (kq : Srt q) (hj : j < q.length) (hc : ∀ s ∈ p.drop i, q[j].1 < s.1) : Mrg f p q i (j + 1) (putR R q[j].1 (f 0 q[j].2)) :=
  h.put h0 (Nat.le_refl _) (by omega) (by omega) (fun e => by split <;> omega) (cf_take_succ hj) (fun s hs => h.pq s hs _ (mem_drop_self hj)) (srt_drop kq hj).1 hc (srt_drop kq hj).2 (fun s hs => .inl hs) (mem_take_succ hj)
theorem Mrg.both (h : Mrg f p q i j R) (h0 : f 0 0 = 0) (kp : Srt p) (kq : Srt q) (hi : i < p.length) (hj : j < q.length) (he : p[i].1 = q[j].1) : Mrg f p q (i + 1) (j + 1) (putR R p[i].1 (f p[i].2 q[j].2)) :=
  h.put h0 (by omega) (by omega) (by omega) (cf_take_succ hi) (fun e => by rw [he]; exact cf_take_succ hj e) (srt_drop kp hi).1 (fun s hs => h.qp s hs _ (mem_drop_self hi)) (srt_drop kp hi).2 (fun s hs => by rw [he]; exact (srt_drop kq hj).2 s hs) (mem_take_succ hi) (fun s hs => by rw [he]; exact mem_take_succ hj s hs)
theorem Mrg.lt_right (kq : Srt q) (hj : j < q.length) {e : Int} (h : e < q[j].1) : ∀ s ∈ q.drop j, e < s.1 := fun s hs => by have := srt_ge kq hj s hs; omega
theorem Mrg.fin (h : Mrg f p q p.length q.length R) : ∀ e, cf R e = f (cf p e) (cf q e) := fun e => by have := h.eq e; rwa [List.take_length, List.take_length] at this
end
/-- all coefficients are within the limit -/
def fitsB (R : List (Int × Int)) : Bool := R.all fun t => decide (-1125899906842624 ≤ t.2 ∧ t.2 ≤ 1125899906842624)
theorem fitsB_put (R : List (Int × Int)) (e v : Int) : fitsB (putR R e v) = (fitsB R && decide (-1125899906842624 ≤ v ∧ v ≤ 1125899906842624)) := by
  unfold putR fitsB
  split
  · next h => rw [h]; simp
  · rw [List.all_append]; simp
theorem fitsB_iff {R : List (Int × Int)} (k : Can R) : fitsB R = true ↔ ∀ e, -1125899906842624 ≤ cf R e ∧ cf R e ≤ 1125899906842624 := by
  unfold fitsB
  rw [List.all_eq_true]
  constructor
  · intro h e
    by_cases h0 : cf R e = 0
    · rw [h0]; omega
    · obtain ⟨t, ht, rfl⟩ := cf_ne h0
      rw [cf_mem k.srt ht]; exact of_decide_eq_true (h t ht)
  · intro h t ht
    rw [← cf_mem k.srt ht]; exact decide_eq_true (h _)
/-- polynomials: big, or a list -/
abbrev Pol := Option (List (Int × Int))
def okP : Pol → Prop
  | none => True
  | some l => Can l ∧ Lim l
/-- the polynomial whose coefficients are those of p and q combined -/
def CombP (f : Int → Int → Int) : Pol → Pol → Pol → Prop
  | some p, some q, r => (∃ l, r = some l ∧ Can l ∧ Lim l ∧ ∀ e, cf l e = f (cf p e) (cf q e)) ∨ (r = none ∧ ∃ e, ¬ (-1125899906842624 ≤ f (cf p e) (cf q e) ∧ f (cf p e) (cf q e) ≤ 1125899906842624))
  | _, _, r => r = none
theorem comb_end {f : Int → Int → Int} {p q R : List (Int × Int)} (h0 : f 0 0 = 0) (h : Mrg f p q p.length q.length R) (lp : Lim p) (lq : Lim q) : CombP f (some p) (some q) (if fitsB R = true then some R else none) := by
  have hf := h.fin
  by_cases hb : fitsB R = true
  · rw [if_pos hb]
    refine .inl ⟨R, rfl, h.can, ⟨fun t ht => by rw [← cf_mem h.can.srt ht]; exact (fitsB_iff h.can).1 hb _, fun t ht => ?_⟩, hf⟩
    have h1 := h.can.ne ht
    rw [hf] at h1
    by_cases e1 : cf p t.1 = 0
    · by_cases e2 : cf q t.1 = 0
      · rw [e1, e2, h0] at h1; exact absurd rfl h1
      · obtain ⟨s, hs, e⟩ := cf_ne e2
        rw [← e]; exact lq.ex s hs
    · obtain ⟨s, hs, e⟩ := cf_ne e1
      rw [← e]; exact lp.ex s hs
  · rw [if_neg hb]
    refine .inr ⟨rfl, Classical.byContradiction fun hn => hb ((fitsB_iff h.can).2 fun e => ?_)⟩
    rw [hf]
    exact Classical.byContradiction fun h1 => hn ⟨e, h1⟩
end Go.Proofs.YtnmidhlghhephaaGreatDoor

namespace Go.Proofs.YtnmidhlghhephaaGreatDoor
set_option linter.unusedVariables false
open Go.RowKit
theorem results_ct {P : Program} {fn : Func} {p u : Tmp} {ty : TypeId} (h : fn.results = #[.cell p ty, .tmp u]) (tmps : Array Value) (w : World) (g : Nat) (t : TypeId) (cs : List Value) (d : TypeDesc)
    (hp : tmps.getD p undef = .pointer (some ⟨g, 0, none⟩)) (hg : Arr w g t cs)
    (hu : P.underlying ty = some d) (hd : (match d with | .struct _ | .array _ _ => true | _ => false) = true) (hi : (P.info? ty).map (·.size) = some (rowOf cs).size) :
    (results fn tmps).run P w = .ok (.tuple #[.agg (rowOf cs), tmps.getD u undef]) w := by
  rw [results_cell_tmp h, hp]
  simp [asAddr, run_loadVar_row w g t ty (rowOf cs) (0, 0) d hg hu hd hi]
theorem results_c {P : Program} {fn : Func} {p : Tmp} {ty : TypeId} (h : fn.results = #[.cell p ty]) (tmps : Array Value) (w : World) (g : Nat) (t : TypeId) (cs : List Value) (d : TypeDesc)
    (hp : tmps.getD p undef = .pointer (some ⟨g, 0, none⟩)) (hg : Arr w g t cs)
    (hu : P.underlying ty = some d) (hd : (match d with | .struct _ | .array _ _ => true | _ => false) = true) (hi : (P.info? ty).map (·.size) = some (rowOf cs).size) :
    (results fn tmps).run P w = .ok (.agg (rowOf cs)) w := results_cell_row h tmps w g t (rowOf cs) (0, 0) d hp hg hu hd hi
end Go.Proofs.YtnmidhlghhephaaGreatDoor

namespace Go.Proofs.YtnmidhlghhephaaGreatDoor
open Go.RowKit
set_option linter.unusedVariables false
/-- a term as cells -/
def tc (t : Int × Int) : List Value := [.int .i64 t.1, .int .i64 t.2]
def OwnT (base : Nat) (w : World) (v : Value) (l : List (Int × Int)) : Prop := w.ownsRow base 51 2 v l.length (l.flatMap tc)
/-- a block of terms -/
def TB (w : World) (b : Nat) : Prop := ∃ cs fr, w.heap[b]? = some (.cells cs 51 fr)
/-- a slice that reads as terms, in a block of terms -/
def Tms (w : World) (v : Value) (l : List (Int × Int)) : Prop :=
  ∃ A c, v = .slice A l.length c ∧ ∀ k (h : k < l.length), ∃ b o, A = some ⟨b, o, none⟩ ∧ w.cell? ⟨b, o + k * 2, none⟩ = some (.int .i64 l[k].1) ∧ w.cell? ⟨b, o + k * 2 + 1, none⟩ = some (.int .i64 l[k].2) ∧ TB w b
theorem Tms.below {w w' : World} {v : Value} {l : List (Int × Int)} (h : Tms w v l) (hb : Below w.heap.size w w') : Tms w' v l := by
  obtain ⟨A, c, hv, hx⟩ := h
  refine ⟨A, c, hv, fun k hk => ?_⟩
  obtain ⟨b, o, hA, h1, h2, cs, fr, h3⟩ := hx k hk
  exact ⟨b, o, hA, (hb.cell (block_lt_of_cell h1)).trans h1, (hb.cell (block_lt_of_cell h2)).trans h2, cs, fr, (hb.block b (block_lt_of_cell h1)).trans h3⟩
theorem Tms.nil (w : World) : Tms w (.slice none 0 0) [] := ⟨none, 0, rfl, fun k h => (by simp at h)⟩
theorem Tms.at_ {w : World} {A : Option Addr} {n c k : Nat} {l : List (Int × Int)} (h : Tms w (.slice A n c) l) (hk : k < l.length) :
    ∃ b o, A = some ⟨b, o, none⟩ ∧ n = l.length ∧ w.cell? ⟨b, o + k * 2, none⟩ = some (.int .i64 l[k].1) ∧ w.cell? ⟨b, o + k * 2 + 1, none⟩ = some (.int .i64 l[k].2) := by
  obtain ⟨A', c', hv, hx⟩ := h
  injection hv with e1 e2 e3
  subst e1
  obtain ⟨b, o, hA, h1, h2, _⟩ := hx k hk
  exact ⟨b, o, hA, e2, h1, h2⟩
/-- blocks of terms are kept -/
theorem Tms.keepT {w w' : World} {v : Value} {l : List (Int × Int)} (h : Tms w v l) (hk : ∀ b, TB w b → w'.heap[b]? = w.heap[b]?) : Tms w' v l := by
  obtain ⟨A, c, hv, hx⟩ := h
  refine ⟨A, c, hv, fun k hk2 => ?_⟩
  obtain ⟨b, o, hA, h1, h2, h3⟩ := hx k hk2
  have hb := hk b h3
  refine ⟨b, o, hA, ?_, ?_, ?_⟩
  · rw [World.cell?_of_block (a := ⟨b, o + k * 2, none⟩) hb]; exact h1
  · rw [World.cell?_of_block (a := ⟨b, o + k * 2 + 1, none⟩) hb]; exact h2
  · obtain ⟨cs, fr, h4⟩ := h3
    exact ⟨cs, fr, hb.trans h4⟩
theorem Tms.cells {w : World} {b o n c k : Nat} {l : List (Int × Int)} (h : Tms w (.slice (some ⟨b, o, none⟩) n c) l) (hk : k < l.length) : w.cell? ⟨b, o + k * 2, none⟩ = some (.int .i64 l[k].1) ∧ w.cell? ⟨b, o + k * 2 + 1, none⟩ = some (.int .i64 l[k].2) := by
  obtain ⟨b', o', hA, _, h1, h2⟩ := h.at_ hk
  injection hA with hA
  injection hA with h3 h4
  subst h3 h4
  exact ⟨h1, h2⟩
section
variable {base : Nat} {w w' : World} {v : Value} {l : List (Int × Int)}
theorem OwnT.nil (base : Nat) (w : World) : OwnT base w (.slice none 0 0) [] := ⟨rfl, .inl ⟨rfl, rfl⟩⟩
theorem OwnT.form (h : OwnT base w v l) : ∃ A c, v = .slice A l.length c := by
  rcases h.2 with ⟨rfl, h0⟩ | ⟨g, cap, cur, rfl, _⟩
  · exact ⟨none, 0, by rw [h0]⟩
  · exact ⟨_, _, rfl⟩
theorem OwnT.form3 (h : OwnT base w v l) : ∃ A n c, v = .slice A n c := by
  obtain ⟨A, c, e⟩ := h.form
  exact ⟨A, _, c, e⟩
theorem OwnT.lt (h : OwnT base w v l) : ∀ k, v.ownBlock = some k → base ≤ k ∧ k < w.heap.size := by
  intro k hk
  rcases h.2 with ⟨rfl, h0⟩ | ⟨b, cap, cur, rfl, hg, hh, r⟩
  · simp [Value.ownBlock] at hk
  · simp [Value.ownBlock] at hk
    subst hk
    rcases Nat.lt_or_ge b w.heap.size with hlt | hge
    · exact ⟨hg, hlt⟩
    · rw [Array.getElem?_eq_none hge] at hh; cases hh
theorem OwnT.keep (h : OwnT base w v l) (hk : ∀ k, v.ownBlock = some k → w'.heap[k]? = w.heap[k]?) : OwnT base w' v l := by
  refine ⟨h.1, ?_⟩
  rcases h.2 with h0 | ⟨b, cap, cur, rfl, hg, hh, r⟩
  · exact .inl h0
  · exact .inr ⟨b, cap, cur, rfl, hg, (hk b rfl).trans hh, r⟩
theorem OwnT.below (h : OwnT base w v l) (hb : Below w.heap.size w w') : OwnT base w' v l := h.keep fun k hk => hb.block k (h.lt k hk).2
theorem OwnT.far {p : Addr} (h : OwnT base w v l) (hg : v.ownBlock ≠ some p.block) (u : Value) : OwnT base (w.setCell p u) v l := h.keep fun k hk => Below.heap_setCell w p u k (fun e => hg (by rw [← e]; exact hk))
theorem OwnT.drewN (h : OwnT base w v l) (n : Nat) : OwnT base (w.drewN n) v l := h
theorem OwnT.low (h : OwnT base w v l) {b2 : Nat} (hb : b2 ≤ base) : OwnT b2 w v l := by
  refine ⟨h.1, ?_⟩
  rcases h.2 with h0 | ⟨g, cap, cur, rfl, hg, r⟩
  · exact .inl h0
  · exact .inr ⟨g, cap, cur, rfl, Nat.le_trans hb hg, r⟩
/-- a block of another type lies apart -/
theorem OwnT.apart {g : Nat} {t : TypeId} {cs : List Value} (h : OwnT base w v l) (hg : Arr w g t cs) (hne : 51 ≠ t) : v.ownBlock ≠ some g := by
  intro hk
  rcases h.2 with ⟨rfl, h0⟩ | ⟨k, cap, cur, rfl, _, hh, r⟩
  · simp [Value.ownBlock] at hk
  · simp [Value.ownBlock] at hk
    subst hk
    unfold Arr at hg
    rw [hg] at hh
    injection hh with hh
    injection hh with _ h2 _
    exact hne h2.symm
theorem tflat_get : ∀ (l : List (Int × Int)) (k j : Nat) (h : k < l.length), j < 2 → (l.flatMap tc)[k * 2 + j]? = (tc l[k])[j]? := by
  intro l
  induction l with
  | nil => intro k j h; simp at h
  | cons m l ih =>
    intro k j h hj
    rw [List.flatMap_cons]
    cases k with
    | zero => rw [List.getElem?_append_left (by simp [tc]; omega)]; simp
    | succ k =>
      rw [List.getElem?_append_right (by simp [tc]; omega)]
      have := ih k j (by simpa using h) hj
      rw [show (k + 1) * 2 + j - (tc m).length = k * 2 + j from by simp [tc]; omega, this]
      simp
theorem OwnT.tms (h : OwnT base w v l) : Tms w v l := by
  rcases h.2 with ⟨rfl, h0⟩ | ⟨g, cap, cur, rfl, hg, hh, hn, _, hc, ht⟩
  · have : l = [] := List.eq_nil_of_length_eq_zero h0
    subst this
    exact Tms.nil w
  · have key : ∀ k (hk : k < l.length) j u, (tc l[k])[j]? = some u → w.cell? ⟨g, 0 + k * 2 + j, none⟩ = some u := by
      intro k hk j u hu
      have hj : j < 2 := (List.getElem?_eq_some_iff.1 hu).1
      rw [cell_of_row w g _ cur 51 (0, 0) hh, Nat.zero_add]
      have h1 : (cur.toList.take (l.length * 2))[k * 2 + j]? = some u := by rw [ht, tflat_get l k j hk hj, hu]
      rw [List.getElem?_take, if_pos (by omega)] at h1
      simpa using h1
    exact ⟨_, _, rfl, fun k hk => ⟨g, 0, rfl, key k hk 0 _ rfl, key k hk 1 _ rfl, _, _, hh⟩⟩
end
theorem info_term : (Tryz.prog.info? 51).map (fun i => (i.zero, i.size, i.bytes)) = some (some (.agg #[.int .i64 0, .int .i64 0]), 2, 16) := by kernel_rfl
/-- what has not been written: all but some blocks -/
structure Gr (base : Nat) (w w' : World) (z : Option Nat) : Prop where
  below : Below base w w'
  keep : ∀ k, k < w.heap.size → z ≠ some k → w'.heap[k]? = w.heap[k]?
theorem wpList_appT {w : World} {base : Nat} {v : Value} {l : List (Int × Int)} {ops : Array Oper} {rest : List Oper} {o : Oper} {a : Act} {Q : Exit → Act → World → Prop} (hgd : o.guard = none) (s x : Operand) (ho : o.op = .call { callee := .builtin .append, args := #[s, x], argTypes := #[32, 32] })
    (hv : a.eval s = v) (h : OwnT base w v l) {b : Nat} {m : Int × Int} (hx : a.eval x = .slice (some ⟨b, 0, none⟩) 1 1) (hu : Arr w b 51 (tc m)) (hlen : l.length ≤ 100000000) (hbase : base ≤ w.heap.size)
    (hK : ∀ v' w', OwnT base w' v' (l ++ [m]) → Gr base w w' v.ownBlock → wpList Tryz.prog ops Q rest (a.put o.dst v') w') : wpList Tryz.prog ops Q (o :: rest) a w := by
  obtain ⟨i, hi, hz, hs, hby⟩ := info_parts info_term
  have hcells : ∀ j q, (tc m)[j]? = some q → w.cell? ((⟨b, 0, none⟩ : Addr).add j) = some q := by
    intro j q hq
    have : (⟨b, 0, none⟩ : Addr).add j = ⟨b, j, none⟩ := by unfold Addr.add; split <;> simp_all
    rw [this, hu.cell]; exact hq
  obtain ⟨v', w', hrun, h2, h3, _, h5⟩ := run_append_own_at (P := Tryz.prog) w base 32 o.type 51 i _ 2 16 Tryz.underlying32 hi hz hs hby rfl (by decide) v l.length (l.flatMap tc) h ⟨b, 0, none⟩ 1 1 (tc m) rfl hcells
    (by intro q hq; simp [tc] at hq; rcases hq with rfl | rfl <;> rfl) (by unfold maxLen; omega) (by omega) hbase
  refine wpList_plain hgd fun _ hk => ?_
  unfold Oper.wp execOp
  simp only [ho, resolve, invoke, builtin, Sem.run_bind, Sem.run_pure, Result.andThen_ok, List.map_toArray, List.map_cons, List.map_nil, hv, hx, hrun]
  have hblk : ∀ k, v.ownBlock = some k → base ≤ k := fun k hk => (OwnT.lt h k hk).1
  refine hk _ _ (hK v' w' ?_ ⟨(Below.refl _ _).grown h3 hbase hblk, fun k hk hne => h3.block k hk (fun e => hne e.symm)⟩)
  unfold OwnT
  rw [List.length_append, List.flatMap_append]
  simpa using h2
/-- a polynomial as a value -/
def PolyV (w : World) (v : Value) (p : Pol) : Prop := ∃ A c, v = .agg #[.bool p.isNone, .slice A (p.getD []).length c] ∧ Tms w (.slice A (p.getD []).length c) (p.getD [])
theorem PolyV.below {w w' : World} {v : Value} {p : Pol} (h : PolyV w v p) (hb : Below w.heap.size w w') : PolyV w' v p := by
  obtain ⟨A, c, hv, hx⟩ := h
  exact ⟨A, c, hv, hx.below hb⟩
theorem PolyV.big (w : World) : PolyV w (.agg #[.bool true, .slice none 0 0]) none := ⟨none, 0, rfl, Tms.nil w⟩
theorem PolyV.zero (w : World) : PolyV w (.agg #[.bool false, .slice none 0 0]) (some []) := ⟨none, 0, rfl, Tms.nil w⟩
theorem PolyV.own {base : Nat} {w : World} {v : Value} {l : List (Int × Int)} (h : OwnT base w v l) : PolyV w (.agg #[.bool false, v]) (some l) := by
  have h1 := h.tms
  obtain ⟨A, c, rfl⟩ := h.form
  exact ⟨A, c, rfl, h1⟩
theorem info_poly : (Tryz.prog.info? 34).map (·.size) = some 2 := by kernel_rfl
end Go.Proofs.YtnmidhlghhephaaGreatDoor

namespace Go.Proofs.YtnmidhlghhephaaGreatDoor
open Go.RowKit
set_option linter.unusedVariables false
/-- within -/
def wiB (v l : Int) : Bool := decide (-l ≤ v ∧ v ≤ l)
theorem within_any (v l : Int) (w : World) (h0 : 0 ≤ l) (h1 : l ≤ 1125899906842624) : Calls Tryz.prog 19 #[.int .i64 v, .int .i64 l] w fun e w' => e = .returned (.bool (wiB v l)) ∧ w = w' := by
  by_cases a : -l ≤ v
  · by_cases b : v ≤ l
    · have hf := Lib.hid (show wiB v l = true from decide_eq_true ⟨a, b⟩)
      go_enter Tryz.func19, Tryz.ntmps19
      go_wp2_with fail
      go_ret
      exact ⟨by rw [hf.out]; rfl, rfl⟩
    · have hf := Lib.hid (show wiB v l = false from decide_eq_false fun h => b h.2)
      go_enter Tryz.func19, Tryz.ntmps19
      go_wp2_with fail
      go_ret
      exact ⟨by rw [hf.out]; rfl, rfl⟩
  · have hf := Lib.hid (show wiB v l = false from decide_eq_false fun h => a h.1)
    go_enter Tryz.func19, Tryz.ntmps19
    go_wp2_with fail
    go_ret
    exact ⟨by rw [hf.out]; rfl, rfl⟩
/-- a closure of two integers that only computes -/
structure CloW (fw : FuncId) (f : Int → Int → Int) : Prop where
  eg : ∀ args W, (callFunc fw args).run Tryz.prog W = .ok (.enter fw args) W
  ca : ∀ (a b : Int) W, -1125899906842624 ≤ a → a ≤ 1125899906842624 → -1125899906842624 ≤ b → b ≤ 1125899906842624 → Calls Tryz.prog fw #[.int .i64 a, .int .i64 b] W fun e w' => e = .returned (.int .i64 (f a b)) ∧ W = w'
  f0 : f 0 0 = 0
  bd : ∀ a b : Int, -1125899906842624 ≤ a → a ≤ 1125899906842624 → -1125899906842624 ≤ b → b ≤ 1125899906842624 → -2251799813685248 ≤ f a b ∧ f a b ≤ 2251799813685248
theorem clo_add : CloW 52 (fun a b => a + b) where
  eg := enters_of Tryz.func52 (by kernel_rfl) rfl
  ca := fun a b W h1 h2 h3 h4 => by
    go_enter Tryz.func52, Tryz.ntmps52
    go_wp2_with fail
    go_ret
    exact ⟨rfl, rfl⟩
  f0 := rfl
  bd := fun a b h1 h2 h3 h4 => ⟨by show _ ≤ a + b; omega, by show a + b ≤ _; omega⟩
/-- all blocks but some stand as they were -/
structure Oth (base : Nat) (L : List Nat) (s : Option Nat) (w w' : World) : Prop where
  below : Below base w w'
  keep : ∀ k, k < w.heap.size → k ∉ L → s ≠ some k → w'.heap[k]? = w.heap[k]?
theorem Oth.arr {base k : Nat} {L : List Nat} {s : Option Nat} {w w' : World} {t : TypeId} {cs : List Value} (h : Oth base L s w w') (ha : Arr w k t cs) (h1 : k ∉ L) (h2 : s ≠ some k) : Arr w' k t cs := (h.keep k ha.lt h1 h2).trans ha
set_option maxHeartbeats 2000000 in
set_option maxRecDepth 100000 in
theorem put_any (fw : FuncId) (f : Int → Int → Int) (hw : CloW fw f) (x a b : Int) (wb fb rb base : Nat) (ft : Bool) (s : Value) (R : List (Int × Int)) (w : World)
    (ha1 : -1125899906842624 ≤ a) (ha2 : a ≤ 1125899906842624) (hb1 : -1125899906842624 ≤ b) (hb2 : b ≤ 1125899906842624)
    (qw : Arr w wb 91 [.func (.func fw) #[] #[]]) (qf : Arr w fb 4 [.bool ft]) (qr : Arr w rb 34 [.bool false, s]) (hs : OwnT base w s R) (hR : R.length ≤ 10000000) (hbw : base ≤ fb) (hbr : base ≤ rb) (hbs : base ≤ w.heap.size) :
    Calls Tryz.prog 72 #[.int .i64 x, .int .i64 a, .int .i64 b, .pointer (some ⟨wb, 0, none⟩), .pointer (some ⟨fb, 0, none⟩), .pointer (some ⟨rb, 0, none⟩)] w fun e w' => e = .returned (.tuple #[]) ∧ ∃ s', OwnT base w' s' (putR R x (f a b)) ∧ Arr w' fb 4 [.bool (ft && wiB (f a b) 1125899906842624)] ∧ Arr w' rb 34 [.bool false, s'] ∧ Oth base [fb, rb] s.ownBlock w w' := by
  have HCA := Lib.hid (fun W => hw.ca a b W ha1 ha2 hb1 hb2)
  have hbd := hw.bd a b ha1 ha2 hb1 hb2
  have eg := hw.eg
  obtain ⟨v, hv⟩ : ∃ v, v = f a b := ⟨_, rfl⟩
  rw [← hv] at HCA hbd ⊢
  have HWI := Lib.hid (fun W => within_any v 1125899906842624 W (by omega) (by omega))
  obtain ⟨wv, hwv⟩ : ∃ z, z = wiB v 1125899906842624 := ⟨_, rfl⟩
  rw [← hwv] at HWI ⊢
  clear hv hwv ha1 ha2 hb1 hb2 hw
  have nf : fb ≠ wb := fun e => by
    rw [e] at qf
    unfold Arr at qf qw
    rw [qf] at qw
    injection qw with h
    injection h with _ h2 _
    exact absurd h2 (by decide)
  have nr : rb ≠ fb := fun e => by
    rw [e] at qr
    unfold Arr at qf qr
    rw [qf] at qr
    injection qr with h
    injection h with _ h2 _
    exact absurd h2 (by decide)
  have sf := hs.apart qf (by decide)
  have sr := hs.apart qr (by decide)
  have HS := Lib.hid hs
  have y0 := qw.cell 0
  have y1 := qf.cell 0
  have g1 := qf.frozen 0
  have h0 : ((v : Int) != 0) = !decide (v = 0) := by by_cases e : v = 0 <;> simp [e]
  clear h0
  have key : ∀ o : Bool, o = (ft && wv) → Arr (w.setCell ⟨fb, 0, none⟩ (.bool o)) fb 4 [.bool o] ∧ Arr (w.setCell ⟨fb, 0, none⟩ (.bool o)) rb 34 [.bool false, s] ∧ OwnT base (w.setCell ⟨fb, 0, none⟩ (.bool o)) s R ∧ Below base w (w.setCell ⟨fb, 0, none⟩ (.bool o)) ∧ (∀ k, k ≠ fb → (w.setCell ⟨fb, 0, none⟩ (.bool o)).heap[k]? = w.heap[k]?) ∧ (w.setCell ⟨fb, 0, none⟩ (.bool o)).heap.size = w.heap.size := fun o ho =>
    ⟨qf.set 0 _, qr.far (p := ⟨fb, 0, none⟩) nr _, hs.far (p := ⟨fb, 0, none⟩) sf _, (Below.refl _ _).setCell (p := ⟨fb, 0, none⟩) hbw _, fun k hk => Below.heap_setCell w ⟨fb, 0, none⟩ _ k hk, by simp⟩
  have KEY := Lib.hid key
  clear key hs qf qr qw
  by_cases e0 : v = 0
  · have z1 : ((v : Int) != 0) = false := by simp [e0]
    have hput := Lib.hid (show putR R x v = R from if_pos e0)
    clear e0
    cases ft with
    | true =>
      obtain ⟨a1, a2, a3, a4, a5, a6⟩ := KEY.out wv (by simp)
      have AA := Lib.hid (show ∃ s', OwnT base (w.setCell ⟨fb, 0, none⟩ (.bool wv)) s' (putR R x v) ∧ Arr (w.setCell ⟨fb, 0, none⟩ (.bool wv)) fb 4 [.bool (true && wv)] ∧ Arr (w.setCell ⟨fb, 0, none⟩ (.bool wv)) rb 34 [.bool false, s'] ∧ Oth base [fb, rb] s.ownBlock w (w.setCell ⟨fb, 0, none⟩ (.bool wv)) from ⟨s, by rw [hput.out]; exact a3, a1, a2, a4, fun k _ hk _ => a5 k (fun e => hk (by simp [e]))⟩)
      clear a1 a2 a3 a4 a5 a6
      go_enter Tryz.func72, Tryz.ntmps72
      go_wp2_with fail
      refine (HCA.out _).mono ?_
      rintro e w1 ⟨rfl, rfl⟩
      go_wp2_with (go_at_call 19; refine (HWI.out _).mono ?_; rintro e w1 ⟨rfl, rfl⟩)
      go_end0
      exact ⟨rfl, AA.out⟩
    | false =>
      obtain ⟨a1, a2, a3, a4, a5, a6⟩ := KEY.out false rfl
      have AA := Lib.hid (show ∃ s', OwnT base (w.setCell ⟨fb, 0, none⟩ (.bool false)) s' (putR R x v) ∧ Arr (w.setCell ⟨fb, 0, none⟩ (.bool false)) fb 4 [.bool (false && wv)] ∧ Arr (w.setCell ⟨fb, 0, none⟩ (.bool false)) rb 34 [.bool false, s'] ∧ Oth base [fb, rb] s.ownBlock w (w.setCell ⟨fb, 0, none⟩ (.bool false)) from ⟨s, by rw [hput.out]; exact a3, a1, a2, a4, fun k _ hk _ => a5 k (fun e => hk (by simp [e]))⟩)
      clear a1 a2 a3 a4 a5 a6
      go_enter Tryz.func72, Tryz.ntmps72
      go_wp2_with fail
      refine (HCA.out _).mono ?_
      rintro e w1 ⟨rfl, rfl⟩
      go_wp2_with fail
      go_end0
      exact ⟨rfl, AA.out⟩
  · have z1 : ((v : Int) != 0) = true := by simp [e0]
    have hput := Lib.hid (show putR R x v = R ++ [(x, v)] from if_neg e0)
    clear e0
    have fin : ∀ (o : Bool) (w1 w3 : World) (s' : Value), o = (ft && wv) → w1 = (w.setCell ⟨fb, 0, none⟩ (.bool o)) → OwnT base w3 s' (R ++ [(x, v)]) → Gr base (w1.alloc (.cells #[.int .i64 x, .int .i64 v] 51)) w3 s.ownBlock → Arr w3 rb 34 [.bool false, s] ∧ ∃ s'', OwnT base (w3.setCell ⟨rb, 1, none⟩ s') s'' (putR R x v) ∧ Arr (w3.setCell ⟨rb, 1, none⟩ s') fb 4 [.bool (ft && wv)] ∧ Arr (w3.setCell ⟨rb, 1, none⟩ s') rb 34 [.bool false, s''] ∧ Oth base [fb, rb] s.ownBlock w (w3.setCell ⟨rb, 1, none⟩ s') := by
      intro o w1 w3 s' ho hw1 hown hg
      obtain ⟨a1, a2, a3, a4, a5, a6⟩ := KEY.out o ho
      rw [← hw1] at a1 a2 a3 a4 a5 a6
      have b1 := a1.alloc (.cells #[.int .i64 x, .int .i64 v] 51)
      have b2 := a2.alloc (.cells #[.int .i64 x, .int .i64 v] 51)
      have c1 := (hg.keep fb b1.lt sf).trans b1
      have c2 := (hg.keep rb b2.lt sr).trans b2
      have q2 : Arr w3 rb 34 [.bool false, s] := c2
      refine ⟨q2, s', ?_, ?_, q2.set 1 _, ?_, ?_⟩
      · rw [hput.out]; exact hown.far (p := ⟨rb, 1, none⟩) (hown.apart q2 (by decide)) _
      · rw [← ho]; exact Arr.far (p := ⟨rb, 1, none⟩) (show Arr w3 fb 4 [.bool o] from c1) (fun e => nr e.symm) _
      · exact ((a4.alloc (by rw [a6]; exact hbs) _).trans hg.below).setCell (p := ⟨rb, 1, none⟩) hbr _
      · intro k hk hL hs
        have k1 : k ≠ fb := fun e => hL (by simp [e])
        have k2 : k ≠ rb := fun e => hL (by simp [e])
        rw [Below.heap_setCell w3 ⟨rb, 1, none⟩ s' k k2, hg.keep k (by simp; omega) hs, Below.heap_alloc _ _ _ (by omega), a5 k k1]
    have FIN := Lib.hid fin
    clear fin
    cases ft with
    | true =>
      obtain ⟨a1, a2, a3, a4, a5, a6⟩ := KEY.out wv (by simp)
      have O1 := Lib.hid (a3.below ((Below.refl _ _).alloc (Nat.le_refl _) (.cells #[.int .i64 x, .int .i64 v] 51)))
      have U1 := Lib.hid (show Arr ((w.setCell ⟨fb, 0, none⟩ (.bool wv)).alloc (.cells #[.int .i64 x, .int .i64 v] 51)) w.heap.size 51 (tc (x, v)) from Arr.newAt (w.setCell ⟨fb, 0, none⟩ (.bool wv)) 51 [.int .i64 x, .int .i64 v] w.heap.size (by simp))
      have x1 := a2.cell 1
      have x2 := a2.frozen 1
      clear a1 a2 a3 a4 a5 a6
      go_enter Tryz.func72, Tryz.ntmps72
      go_wp2_with fail
      refine (HCA.out _).mono ?_
      rintro e w1 ⟨rfl, rfl⟩
      go_wp2_with (first | (go_at_call 19; refine (HWI.out _).mono ?_; rintro e w1 ⟨rfl, rfl⟩) | (at_builtin; refine wpList_appT (m := (x, v)) rfl _ _ rfl rfl O1.out rfl U1.out (by omega) (Nat.le_trans hbs (by simp)) ?_; intro s' w3 hown hg; obtain ⟨r1, r2⟩ := FIN.out wv _ w3 s' (by simp) rfl hown hg; have R2 := Lib.hid r2; obtain ⟨A5, n5, c5, rfl⟩ := hown.form3; have u1 := r1.cell 1; have u2 := r1.frozen 1; clear r1 r2 hown hg))
      go_end0
      exact ⟨rfl, R2.out⟩
    | false =>
      obtain ⟨a1, a2, a3, a4, a5, a6⟩ := KEY.out false rfl
      have O1 := Lib.hid (a3.below ((Below.refl _ _).alloc (Nat.le_refl _) (.cells #[.int .i64 x, .int .i64 v] 51)))
      have U1 := Lib.hid (show Arr ((w.setCell ⟨fb, 0, none⟩ (.bool false)).alloc (.cells #[.int .i64 x, .int .i64 v] 51)) w.heap.size 51 (tc (x, v)) from Arr.newAt (w.setCell ⟨fb, 0, none⟩ (.bool false)) 51 [.int .i64 x, .int .i64 v] w.heap.size (by simp))
      have x1 := a2.cell 1
      have x2 := a2.frozen 1
      clear a1 a2 a3 a4 a5 a6
      go_enter Tryz.func72, Tryz.ntmps72
      go_wp2_with fail
      refine (HCA.out _).mono ?_
      rintro e w1 ⟨rfl, rfl⟩
      go_wp2_with ((at_builtin; refine wpList_appT (m := (x, v)) rfl _ _ rfl rfl O1.out rfl U1.out (by omega) (Nat.le_trans hbs (by simp)) ?_; intro s' w3 hown hg; obtain ⟨r1, r2⟩ := FIN.out false _ w3 s' rfl rfl hown hg; have R2 := Lib.hid r2; obtain ⟨A5, n5, c5, rfl⟩ := hown.form3; have u1 := r1.cell 1; have u2 := r1.frozen 1; clear r1 r2 hown hg))
      go_end0
      exact ⟨rfl, R2.out⟩
end Go.Proofs.YtnmidhlghhephaaGreatDoor

namespace Go.Proofs.YtnmidhlghhephaaGreatDoor
set_option linter.unusedVariables false
abbrev K2 := Int × Int
abbrev T2 := K2 × Int
/-- the order of the exponents -/
def kb (a b : K2) : Prop := a.1 < b.1 ∨ (a.1 = b.1 ∧ a.2 < b.2)
theorem kb_ne {a b : K2} (h : kb a b) : a ≠ b := by
  intro e; subst e; unfold kb at h; omega
theorem kb_trans {a b c : K2} (h : kb a b) (h2 : kb b c) : kb a c := by unfold kb at *; omega
theorem kb_tri (a b : K2) : kb a b ∨ a = b ∨ kb b a := by
  unfold kb
  by_cases h : a.1 = b.1
  · by_cases h2 : a.2 = b.2
    · exact .inr (.inl (Prod.ext h h2))
    · omega
  · omega
/-- the coefficient at a pair of exponents -/
def cg2 : List T2 → K2 → Int
  | [], _ => 0
  | t :: l, e => (if t.1 = e then t.2 else 0) + cg2 l e
theorem cg2_nil (e : K2) : cg2 [] e = 0 := rfl
theorem cg2_cons (t : T2) (l : List T2) (e : K2) : cg2 (t :: l) e = (if t.1 = e then t.2 else 0) + cg2 l e := rfl
theorem cg2_append (l m : List T2) (e : K2) : cg2 (l ++ m) e = cg2 l e + cg2 m e := by
  induction l with
  | nil => simp [cg2]
  | cons t l ih => rw [List.cons_append, cg2_cons, cg2_cons, ih]; omega
theorem cg2_one (t : T2) (e : K2) : cg2 [t] e = if t.1 = e then t.2 else 0 := by rw [cg2_cons, cg2_nil]; omega
theorem cg2_out {l : List T2} {e : K2} (h : ∀ t ∈ l, t.1 ≠ e) : cg2 l e = 0 := by
  induction l with
  | nil => rfl
  | cons t l ih => rw [cg2_cons, if_neg (h t (List.mem_cons_self ..)), ih (fun s hs => h s (List.mem_cons_of_mem _ hs))]; rfl
def Srt2 (l : List T2) : Prop := l.Pairwise fun a b => kb a.1 b.1
structure Can2 (l : List T2) : Prop where
  srt : Srt2 l
  nz : ∀ t ∈ l, t.2 ≠ 0
theorem Can2.nil : Can2 [] := ⟨List.Pairwise.nil, fun t h => by cases h⟩
theorem cg2_nodup {l : List T2} (h : l.Pairwise fun a b => a.1 ≠ b.1) {t : T2} (ht : t ∈ l) : cg2 l t.1 = t.2 := by
  induction l with
  | nil => cases ht
  | cons s l ih =>
    obtain ⟨h1, h2⟩ := List.pairwise_cons.1 h
    rw [cg2_cons]
    rcases List.mem_cons.1 ht with rfl | hm
    · rw [if_pos rfl, cg2_out (fun s hs e => h1 s hs e.symm)]; omega
    · rw [if_neg (h1 t hm), ih h2 hm]; omega
theorem Srt2.nodup {l : List T2} (h : Srt2 l) : l.Pairwise fun a b => a.1 ≠ b.1 := h.imp fun h => kb_ne h
theorem cg2_mem {l : List T2} (h : Srt2 l) {t : T2} (ht : t ∈ l) : cg2 l t.1 = t.2 := cg2_nodup h.nodup ht
theorem Can2.tail {t : T2} {l : List T2} (h : Can2 (t :: l)) : Can2 l := ⟨(List.pairwise_cons.1 h.srt).2, fun s hs => h.nz s (List.mem_cons_of_mem _ hs)⟩
theorem Can2.ext : ∀ {l m : List T2}, Can2 l → Can2 m → (∀ e, cg2 l e = cg2 m e) → l = m
  | [], [], _, _, _ => rfl
  | [], t :: m, _, k, he => by
    have h1 := cg2_mem k.srt (List.mem_cons_self (a := t) (l := m))
    have h2 := k.nz t (List.mem_cons_self ..)
    rw [← he] at h1
    exact absurd h1.symm h2
  | s :: l, [], h, _, he => by
    have h1 := cg2_mem h.srt (List.mem_cons_self (a := s) (l := l))
    have h2 := h.nz s (List.mem_cons_self ..)
    rw [he] at h1
    exact absurd h1.symm h2
  | s :: l, t :: m, h, k, he => by
    have a1 := (List.pairwise_cons.1 h.srt).1
    have b1 := (List.pairwise_cons.1 k.srt).1
    have a2 := cg2_mem h.srt (List.mem_cons_self (a := s) (l := l))
    have b2 := cg2_mem k.srt (List.mem_cons_self (a := t) (l := m))
    have a3 := h.nz s (List.mem_cons_self ..)
    have b3 := k.nz t (List.mem_cons_self ..)
    have e1 : s.1 = t.1 := by
      rcases kb_tri s.1 t.1 with q | q | q
      · rw [he, cg2_out (fun x hx => by rcases List.mem_cons.1 hx with rfl | hx; exact (kb_ne q).symm; exact (kb_ne (kb_trans q (b1 x hx))).symm)] at a2
        exact absurd a2.symm a3
      · exact q
      · rw [← he, cg2_out (fun x hx => by rcases List.mem_cons.1 hx with rfl | hx; exact (kb_ne q).symm; exact (kb_ne (kb_trans q (a1 x hx))).symm)] at b2
        exact absurd b2.symm b3
    have e2 : s = t := by
      refine Prod.ext e1 ?_
      rw [← a2, ← b2, he, e1]
    subst e2
    rw [Can2.ext h.tail k.tail (fun e => by have := he e; rw [cg2_cons, cg2_cons] at this; omega)]
theorem cg2_ne {l : List T2} {e : K2} (h : cg2 l e ≠ 0) : ∃ t ∈ l, t.1 = e := by
  apply Classical.byContradiction
  intro hn
  exact h (cg2_out fun t ht he => hn ⟨t, ht, he⟩)
theorem Can2.ne {l : List T2} (k : Can2 l) {t : T2} (ht : t ∈ l) : cg2 l t.1 ≠ 0 := by rw [cg2_mem k.srt ht]; exact k.nz t ht
/-- within the limits of the program -/
structure Lim2 (l : List T2) : Prop where
  co : ∀ t ∈ l, -1125899906842624 ≤ t.2 ∧ t.2 ≤ 1125899906842624
  ea : ∀ t ∈ l, -1048576 ≤ t.1.1 ∧ t.1.1 ≤ 1048576
  ez : ∀ t ∈ l, -1048576 ≤ t.1.2 ∧ t.1.2 ≤ 1048576
theorem Lim2.nil : Lim2 [] := ⟨fun t h => (by cases h), fun t h => (by cases h), fun t h => (by cases h)⟩
/-- the list of the terms that a function has on a list of keys -/
theorem nodup_of_fn {F : K2 → Int} {l : List T2} (h : ∀ t ∈ l, t.2 = F t.1) (hd : l.Pairwise fun a b => a.1 ≠ b.1) (hc : ∀ e, F e ≠ 0 → ∃ t ∈ l, t.1 = e) (e : K2) : cg2 l e = F e := by
  by_cases hx : ∃ t ∈ l, t.1 = e
  · obtain ⟨t, ht, rfl⟩ := hx
    rw [cg2_nodup hd ht, h t ht]
  · rw [cg2_out (fun t ht he => hx ⟨t, ht, he⟩)]
    apply Classical.byContradiction
    intro hn
    exact hx (hc e fun h => hn h.symm)
end Go.Proofs.YtnmidhlghhephaaGreatDoor

namespace Go.Proofs.YtnmidhlghhephaaGreatDoor
set_option linter.unusedVariables false
def kadd (a b : K2) : K2 := (a.1 + b.1, a.2 + b.2)
def ksub (a b : K2) : K2 := (a.1 - b.1, a.2 - b.2)
theorem kadd_iff {a b e : K2} : kadd a b = e ↔ a = ksub e b := by
  unfold kadd ksub
  constructor
  · intro h; subst h; apply Prod.ext <;> simp <;> omega
  · intro h; subst h; apply Prod.ext <;> simp
def mulT (l m : List T2) : List T2 := l.flatMap fun s => m.map fun t => (kadd s.1 t.1, s.2 * t.2)
theorem mulT_nil (m : List T2) : mulT [] m = [] := rfl
theorem mulT_cons (s : T2) (l m : List T2) : mulT (s :: l) m = (m.map fun t => (kadd s.1 t.1, s.2 * t.2)) ++ mulT l m := by
  unfold mulT; rw [List.flatMap_cons]
/-- the sum of F (e - t) times the coefficient of t -/
def cvS (F : K2 → Int) : List T2 → K2 → Int
  | [], _ => 0
  | t :: m, e => t.2 * F (ksub e t.1) + cvS F m e
theorem cvS_add (F G : K2 → Int) (m : List T2) (e : K2) : cvS (fun x => F x + G x) m e = cvS F m e + cvS G m e := by
  induction m with
  | nil => rfl
  | cons t m ih => rw [cvS, cvS, cvS, ih, Int.mul_add]; omega
theorem cvS_congr {F G : K2 → Int} (h : ∀ e, F e = G e) (m : List T2) (e : K2) : cvS F m e = cvS G m e := by
  have : F = G := funext h
  rw [this]
theorem cg2_map_mul (s : T2) (m : List T2) (e : K2) : cg2 (m.map fun t => (kadd s.1 t.1, s.2 * t.2)) e = cvS (fun x => cg2 [s] x) m e := by
  induction m with
  | nil => rfl
  | cons t m ih =>
    rw [List.map_cons, cg2_cons, cvS, ih, cg2_one]
    by_cases h : kadd s.1 t.1 = e
    · rw [if_pos h, if_pos (kadd_iff.1 h), Int.mul_comm]
    · rw [if_neg h, if_neg (fun q => h (kadd_iff.2 q)), Int.mul_zero]
theorem cg2_mulT (l m : List T2) (e : K2) : cg2 (mulT l m) e = cvS (cg2 l) m e := by
  induction l with
  | nil =>
    rw [mulT_nil, cg2_nil]
    induction m with
    | nil => rfl
    | cons t m ih => rw [cvS, ← ih, cg2_nil]; omega
  | cons s l ih =>
    rw [mulT_cons, cg2_append, cg2_map_mul, ih, ← cvS_add]
    exact cvS_congr (fun x => by rw [cg2_cons s l, cg2_one]) m e
theorem mulT_congr_left {l l' : List T2} (h : ∀ e, cg2 l e = cg2 l' e) (m : List T2) (e : K2) : cg2 (mulT l m) e = cg2 (mulT l' m) e := by
  rw [cg2_mulT, cg2_mulT]; exact cvS_congr h m e
theorem mulT_single (l : List T2) (t : T2) (e : K2) : cg2 (mulT l [t]) e = cg2 (mulT [t] l) e := by
  rw [cg2_mulT, mulT_cons, mulT_nil, List.append_nil, cvS, cvS]
  induction l with
  | nil => simp [cg2]
  | cons s l ih =>
    rw [List.map_cons, cg2_cons, cg2_cons, ← ih, Int.mul_add]
    by_cases h : s.1 = ksub e t.1
    · have h2 := kadd_iff.2 h
      have h3 : kadd t.1 s.1 = e := by rw [← h2]; unfold kadd; apply Prod.ext <;> simp <;> omega
      rw [if_pos h, if_pos h3]; omega
    · have h3 : ¬ kadd t.1 s.1 = e := fun q => h (kadd_iff.1 (by rw [← q]; unfold kadd; apply Prod.ext <;> simp <;> omega))
      rw [if_neg h, if_neg h3]; omega
theorem mulT_comm (l m : List T2) (e : K2) : cg2 (mulT l m) e = cg2 (mulT m l) e := by
  induction m with
  | nil => rw [cg2_mulT, cvS, mulT_nil, cg2_nil]
  | cons t m ih =>
    have h1 : cg2 (mulT l (t :: m)) e = cg2 (mulT l [t]) e + cg2 (mulT l m) e := by
      rw [cg2_mulT, cg2_mulT, cg2_mulT, cvS, cvS, cvS]; omega
    have h2 : mulT (t :: m) l = mulT [t] l ++ mulT m l := by rw [mulT_cons, mulT_cons, mulT_nil, List.append_nil]
    rw [h1, h2, cg2_append, ih, mulT_single]
theorem mulT_congr_right {m m' : List T2} (h : ∀ e, cg2 m e = cg2 m' e) (l : List T2) (e : K2) : cg2 (mulT l m) e = cg2 (mulT l m') e := by
  rw [mulT_comm, mulT_congr_left h, mulT_comm]
theorem mulT_append (l l' m : List T2) : mulT (l ++ l') m = mulT l m ++ mulT l' m := by unfold mulT; rw [List.flatMap_append]
/-- the sum of the absolute values -/
def asum2 : List T2 → Nat
  | [] => 0
  | t :: l => t.2.natAbs + asum2 l
theorem asum2_append (l m : List T2) : asum2 (l ++ m) = asum2 l + asum2 m := by
  induction l with
  | nil => simp [asum2]
  | cons t l ih => rw [List.cons_append, asum2, asum2, ih]; omega
theorem asum2_map (s : T2) (m : List T2) : asum2 (m.map fun t => (kadd s.1 t.1, s.2 * t.2)) = s.2.natAbs * asum2 m := by
  induction m with
  | nil => simp [asum2]
  | cons t m ih => rw [List.map_cons, asum2, asum2, ih, Int.natAbs_mul, Nat.mul_add]
theorem asum2_mulT (l m : List T2) : asum2 (mulT l m) = asum2 l * asum2 m := by
  induction l with
  | nil => simp [mulT_nil, asum2]
  | cons s l ih => rw [mulT_cons, asum2_append, asum2_map, ih, asum2, Nat.add_mul]
theorem cg2_asum (l : List T2) (e : K2) : (cg2 l e).natAbs ≤ asum2 l := by
  induction l with
  | nil => simp [cg2, asum2]
  | cons t l ih => rw [cg2_cons, asum2]; split <;> omega
/-- the sum of the absolute values of a function over a list of keys -/
def fsum2 (F : K2 → Int) : List K2 → Nat
  | [] => 0
  | k :: l => (F k).natAbs + fsum2 F l
theorem fsum2_le (s : T2) (F : K2 → Int) (ks : List K2) (hd : ks.Nodup) : fsum2 (fun e => (if s.1 = e then s.2 else 0) + F e) ks ≤ (if s.1 ∈ ks then s.2.natAbs else 0) + fsum2 F ks := by
  induction ks with
  | nil => simp [fsum2]
  | cons k ks ih =>
    obtain ⟨h1, h2⟩ := List.nodup_cons.1 hd
    have := ih h2
    rw [fsum2, fsum2]
    by_cases hk : s.1 = k
    · subst hk
      rw [if_neg h1] at this
      rw [if_pos (List.mem_cons_self ..), if_pos rfl]
      omega
    · rw [if_neg hk]
      by_cases hm : s.1 ∈ ks
      · rw [if_pos hm] at this
        rw [if_pos (List.mem_cons_of_mem _ hm)]
        omega
      · rw [if_neg hm] at this
        rw [if_neg (fun q => by rcases List.mem_cons.1 q with q | q; exact hk q; exact hm q)]
        omega
theorem fsum2_cg (L : List T2) (ks : List K2) (hd : ks.Nodup) : fsum2 (cg2 L) ks ≤ asum2 L := by
  induction L with
  | nil =>
    have : ∀ ks, fsum2 (cg2 []) ks = 0 := fun ks => by
      induction ks with
      | nil => rfl
      | cons k ks ih => rw [fsum2, ih]; rfl
    rw [this]; exact Nat.zero_le _
  | cons s L ih =>
    have h := fsum2_le s (cg2 L) ks hd
    have e : (fun e => (if s.1 = e then s.2 else 0) + cg2 L e) = cg2 (s :: L) := by funext e; rw [cg2_cons]
    rw [e] at h
    rw [asum2]
    split at h <;> omega
theorem asum2_fsum {r : List T2} {F : K2 → Int} (h : ∀ t ∈ r, t.2 = F t.1) : asum2 r = fsum2 F (r.map (·.1)) := by
  induction r with
  | nil => rfl
  | cons t r ih => rw [asum2, List.map_cons, fsum2, ih (fun s hs => h s (List.mem_cons_of_mem _ hs)), h t (List.mem_cons_self ..)]
/-- a canonical list has the least sum of absolute values -/
theorem Can2.asum {r L : List T2} (k : Can2 r) (h : ∀ e, cg2 r e = cg2 L e) : asum2 r ≤ asum2 L := by
  rw [asum2_fsum (F := cg2 L) (fun t ht => by rw [← h, cg2_mem k.srt ht])]
  refine fsum2_cg L _ ?_
  rw [List.nodup_iff_pairwise_ne, List.pairwise_map]
  exact k.srt.nodup
/-- the exponents of a list are at most N in absolute value -/
def Ebd (N : Nat) (l : List T2) : Prop := ∀ t ∈ l, (-(N : Int) ≤ t.1.1 ∧ t.1.1 ≤ N) ∧ -(N : Int) ≤ t.1.2 ∧ t.1.2 ≤ N
theorem Ebd.nil (N : Nat) : Ebd N [] := fun t h => by cases h
theorem Ebd.append {N : Nat} {l m : List T2} (h : Ebd N l) (k : Ebd N m) : Ebd N (l ++ m) := fun t ht => by
  rcases List.mem_append.1 ht with ht | ht
  · exact h t ht
  · exact k t ht
theorem Ebd.mono {N M : Nat} {l : List T2} (h : Ebd N l) (hm : N ≤ M) : Ebd M l := fun t ht => by have := h t ht; omega
theorem Ebd.mul {N M : Nat} {l m : List T2} (h : Ebd N l) (k : Ebd M m) : Ebd (N + M) (mulT l m) := fun t ht => by
  unfold mulT at ht
  obtain ⟨s, hs, ht⟩ := List.mem_flatMap.1 ht
  obtain ⟨u, hu, rfl⟩ := List.mem_map.1 ht
  have h1 := h s hs
  have h2 := k u hu
  simp only [kadd]
  omega
theorem Can2.lim {r L : List T2} {N : Nat} (k : Can2 r) (h : ∀ e, cg2 r e = cg2 L e) (hb : asum2 L ≤ 1125899906842624) (he : Ebd N L) (hN : N ≤ 1048576) : Lim2 r := by
  have key : ∀ t ∈ r, ∃ s ∈ L, s.1 = t.1 := fun t ht => cg2_ne (by rw [← h]; exact k.ne ht)
  refine ⟨fun t ht => ?_, fun t ht => ?_, fun t ht => ?_⟩
  · have h1 := cg2_mem k.srt ht
    rw [h] at h1
    have h2 := cg2_asum L t.1
    omega
  · obtain ⟨s, hs, e⟩ := key t ht
    have := he s hs
    rw [e] at this
    omega
  · obtain ⟨s, hs, e⟩ := key t ht
    have := he s hs
    rw [e] at this
    omega
end Go.Proofs.YtnmidhlghhephaaGreatDoor

namespace Go.Proofs.YtnmidhlghhephaaGreatDoor
set_option linter.unusedVariables false
open Go.RowKit
def upd {α : Type} (x : Nat → α) (i : Nat) (v : α) : Nat → α := fun j => if j = i then v else x j
@[simp] theorem upd_same {α : Type} (x : Nat → α) (i : Nat) (v : α) : upd x i v i = v := by simp [upd]
theorem upd_ne {α : Type} (x : Nat → α) {i j : Nat} (v : α) (h : j ≠ i) : upd x i v j = x j := by simp [upd, h]
/-- what the operations of a region have put so far -/
def putAll : List (Option Tmp) → Nat → (Nat → Value) → Act → Act
  | [], _, _, a => a
  | d :: ds, i, x, a => putAll ds (i + 1) x (a.put d (x i))
def dstOf (ops : Array Oper) : List (Option Tmp) := ops.toList.map (·.dst)
/-- no temporary is written twice -/
def apartD : List (Option Tmp) → Bool
  | [] => true
  | d :: ds => (match d with | none => true | some t => !ds.contains (some t)) && apartD ds
theorem putAll_put : ∀ (ds : List (Option Tmp)) (i : Nat) (x : Nat → Value) (a : Act) (d : Option Tmp) (v : Value), (∀ t, d = some t → some t ∉ ds) → putAll ds i x (a.put d v) = (putAll ds i x a).put d v := by
  intro ds
  induction ds with
  | nil => intro i x a d v _; rfl
  | cons e ds ih =>
    intro i x a d v h
    rw [putAll, putAll, ← ih _ _ _ _ _ (fun t ht hm => h t ht (List.mem_cons_of_mem _ hm))]
    congr 1
    refine Act.put_comm a v (x i) (fun t ht he => ?_)
    exact h t ht (by rw [he]; exact List.mem_cons_self)
theorem putAll_congr : ∀ (ds : List (Option Tmp)) (i : Nat) (x y : Nat → Value) (a : Act), (∀ j, i ≤ j → j < i + ds.length → x j = y j) → putAll ds i x a = putAll ds i y a := by
  intro ds
  induction ds with
  | nil => intro i x y a _; rfl
  | cons e ds ih =>
    intro i x y a h
    rw [putAll, putAll, h i (Nat.le_refl _) (by simp), ih (i + 1) x y _ (fun j h1 h2 => h j (by omega) (by simp at h2 ⊢; omega))]
theorem put_put (a : Act) (d : Option Tmp) (u v : Value) : (a.put d u).put d v = a.put d v := by
  cases d <;> simp [Act.put]
theorem putAll_upd : ∀ (ds : List (Option Tmp)) (i : Nat) (x : Nat → Value) (a : Act) (k : Nat) (v : Value), apartD ds = true → k < ds.length → (putAll ds i x a).put (ds.getD k none) v = putAll ds i (upd x (i + k) v) a := by
  intro ds
  induction ds with
  | nil => intro i x a k v _ h; simp at h
  | cons e ds ih =>
    intro i x a k v hd hk
    simp only [apartD, Bool.and_eq_true] at hd
    rw [putAll, putAll]
    cases k with
    | zero =>
      simp only [Nat.add_zero, upd_same, List.getD_cons_zero]
      rw [← putAll_put]
      · rw [put_put]
        exact putAll_congr _ _ _ _ _ (fun j h1 h2 => (upd_ne x v (by omega)).symm)
      · intro t ht
        rw [ht] at hd
        have := hd.1
        simpa using this
    | succ k =>
      rw [List.getD_cons_succ, ih _ _ _ _ _ hd.2 (by simpa using hk), upd_ne x v (by omega)]
      congr 2
      omega
def slotV (a : Act) (d : Option Tmp) : Value := match d with | some t => a.tmps.getD t undef | none => undef
theorem put_get (a : Act) (d : Option Tmp) : a.put d (slotV a d) = a := by
  cases d with
  | none => rfl
  | some t =>
    simp only [Act.put, slotV]
    congr 1
    apply Array.ext
    · simp
    · intro j h1 h2
      simp only [Array.getElem_setIfInBounds h2]
      split
      · rename_i h; subst h; simp [h2]
      · rfl
theorem putAll_start : ∀ (ds : List (Option Tmp)) (i : Nat) (a : Act), apartD ds = true → putAll ds i (fun j => slotV a (ds.getD (j - i) none)) a = a := by
  intro ds
  induction ds with
  | nil => intro i a _; rfl
  | cons e ds ih =>
    intro i a hd
    simp only [apartD, Bool.and_eq_true] at hd
    rw [putAll]
    have h0 : slotV a ((e :: ds).getD (i - i) none) = slotV a e := by simp
    simp only [h0, put_get]
    refine Eq.trans (putAll_congr _ _ _ _ _ (fun j h1 h2 => ?_)) (ih (i + 1) a hd.2)
    rw [show j - i = (j - (i + 1)) + 1 from by omega, List.getD_cons_succ]
/-- each edge leads back -/
def backD (ops : Array Oper) : Bool := (List.range ops.size).all fun i => ((ops[i]?).map (·.after.all fun e => !Region.binds .any e || decide (e.on < i))).getD true
def deps (o : Oper) : List Nat := (o.after.toList.filter fun e => Region.binds .any e).map (·.on)
def depsAt (ops : Array Oper) (j : Nat) : List Nat := match ops[j]? with | some o => deps o | none => []
section
variable {P : Program} {ops : Array Oper} {Q : Exit → Act → World → Prop}
theorem ready_nil (hb : backD ops = true) {listed : Array Bool} (hs : listed.size = ops.size) (h : Region.ready .any ops listed = []) : ∀ i, i < ops.size → listed.getD i true = true := by
  intro i
  induction i using Nat.strongRecOn with
  | _ i ih =>
    intro hi
    cases hl : listed.getD i true with
    | true => rfl
    | false =>
      exfalso
      have : i ∈ Region.ready .any ops listed := by
        rw [mem_ready]
        refine ⟨hl, ops[i], by simp [hi], fun e he hbe => ?_⟩
        have hlt : e.on < i := by
          simp only [backD, List.all_eq_true, List.mem_range] at hb
          have := hb i hi
          simp only [hi, Array.getElem?_eq_getElem, Option.map_some, Option.getD_some, Array.all_eq_true_iff_forall_mem] at this
          have h2 := this e he
          rw [hbe] at h2
          simpa using h2
        have := ih e.on hlt (by omega)
        have hlt' : e.on < listed.size := by omega
        simpa [Array.getD, hlt'] using this
      rw [h] at this
      cases this
def countF (l : Array Bool) : Nat := l.toList.countP (· == false)
theorem countF_list : ∀ (m : List Bool) (i : Nat), m[i]? = some false → (m.set i true).countP (· == false) + 1 = m.countP (· == false) := by
  intro m
  induction m with
  | nil => intro i h; simp at h
  | cons b m ih =>
    intro i h
    cases i with
    | zero => simp at h; simp [h]
    | succ i =>
      have := ih i (by simpa using h)
      simp only [List.set_cons_succ, List.countP_cons]
      omega
theorem countF_set {l : Array Bool} {i : Nat} (h : l.getD i true = false) : countF (l.setIfInBounds i true) + 1 = countF l := by
  have hi : i < l.size := by
    rcases Nat.lt_or_ge i l.size with h' | h'
    · exact h'
    · simp [Array.getD, Nat.not_lt.2 h'] at h
  unfold countF
  rw [Array.toList_setIfInBounds]
  refine countF_list _ _ ?_
  simpa [Array.getD, hi] using h
theorem wpAny_inv (hb : backD ops = true) (I : Array Bool → Act → World → Prop)
    (hstep : ∀ l a w i, l.size = ops.size → I l a w → i ∈ Region.ready .any ops l → wpOp P ops Q i (I (l.setIfInBounds i true)) a w)
    (hend : ∀ l a w, l.size = ops.size → I l a w → (∀ i, i < ops.size → l.getD i true = true) → Q .normal a w) :
    ∀ (fuel : Nat) (l : Array Bool) (a : Act) (w : World), l.size = ops.size → countF l ≤ fuel → I l a w → wpAny P .any ops Q fuel l a w := by
  intro fuel
  induction fuel with
  | zero =>
    intro l a w hs hc h
    have hr : Region.ready .any ops l = [] := by
      cases hr : Region.ready .any ops l with
      | nil => rfl
      | cons i r =>
        have : i ∈ Region.ready .any ops l := by rw [hr]; exact List.mem_cons_self
        have := countF_set (mem_ready.1 this).1
        omega
    exact ⟨hr, hend l a w hs h (ready_nil hb hs hr)⟩
  | succ fuel ih =>
    intro l a w hs hc h
    refine ⟨fun hr => hend l a w hs h (ready_nil hb hs hr), fun i hi => ?_⟩
    refine wpOp_mono (fun a' w' h' => ih _ a' w' (by simpa using hs) ?_ h') (hstep l a w i hs h hi)
    have := countF_set (mem_ready.1 hi).1
    omega
/-- The region by facts. 'x i' is the value of operation i, 'D i' says that it has come up. -/
theorem wp_region_facts {id : Nat} {a : Act} {w : World} (hm : P.follows .mixedOrders = true) (hd : apartD (dstOf ops) = true) (hb : backD ops = true)
    (I : (Nat → Bool) → (Nat → Value) → World → Prop)
    (h0 : ∀ x, I (fun _ => false) x w.drew)
    (hstep : ∀ i o, ops[i]? = some o → ∀ D x w, I D x w → D i = false → (∀ j ∈ deps o, D j = true) → (∀ j, D j = true → ∀ k ∈ depsAt ops j, D k = true) → wpOp P ops Q i (fun a' w' => ∃ v, a' = (putAll (dstOf ops) 0 x a).put o.dst v ∧ I (upd D i true) (upd x i v) w') (putAll (dstOf ops) 0 x a) w)
    (hend : ∀ D x w, I D x w → (∀ i, i < ops.size → D i = true) → Q .normal (putAll (dstOf ops) 0 x a) w) : (Code.region id ops true).wp P Q a w := by
  refine wp_region_any hm (wpAny_inv hb (fun l a' w' => ∃ x, a' = putAll (dstOf ops) 0 x a ∧ (∀ j, l.getD j false = true → ∀ k ∈ depsAt ops j, l.getD k false = true) ∧ I (fun j => l.getD j false) x w') ?_ ?_ _ _ _ _ (by simp) ?_ ?_)
  · rintro l a' w' i hs ⟨x, rfl, hcl, hI⟩ hi
    obtain ⟨hun, o, ho, hdep⟩ := mem_ready.1 hi
    have hlt : i < ops.size := (Array.getElem?_eq_some_iff.1 ho).1
    have hdi : (dstOf ops).getD i none = o.dst := by
      have : ops[i] = o := by simpa [hlt] using ho
      simp [dstOf, hlt, this]
    have hdp : ∀ j ∈ deps o, l.getD j false = true := by
      intro j hj
      simp only [deps, List.mem_map, List.mem_filter] at hj
      obtain ⟨e, ⟨he, hbe⟩, rfl⟩ := hj
      exact hdep e (by simpa using he) hbe
    refine wpOp_mono ?_ (hstep i o ho (fun j => l.getD j false) x w' hI (by have h' : i < l.size := by omega
                                                                            simpa [Array.getD, h'] using hun) hdp hcl)
    · rintro a'' w'' ⟨v, rfl, hI'⟩
      refine ⟨upd x i v, ?_, ?_, ?_⟩
      · rw [← hdi, putAll_upd _ _ _ _ _ _ hd (by simpa [dstOf] using hlt), Nat.zero_add]
      · intro j hj k hk
        by_cases e : k = i
        · subst e
          have h' : k < l.size := by omega
          simp [Array.getD, h']
        rw [getD_set_ne _ (Ne.symm e)]
        by_cases ej : j = i
        · subst ej
          simp only [depsAt, ho] at hk
          exact hdp k hk
        · rw [getD_set_ne _ (Ne.symm ej)] at hj
          exact hcl j hj k hk
      · have : (fun j => (l.setIfInBounds i true).getD j false) = upd (fun j => l.getD j false) i true := by
          funext j
          by_cases e : j = i
          · subst e
            have h' : j < l.size := by omega
            simp [upd, Array.getD, h']
          · rw [upd_ne _ _ e, getD_set_ne _ (Ne.symm e)]
        rw [this]
        exact hI'
  · rintro l a' w' hs ⟨x, rfl, _, hI⟩ hall
    refine hend _ x w' hI (fun i hi => ?_)
    have := hall i hi
    cases hl : l.getD i false with
    | true => rfl
    | false => 
      rcases Nat.lt_or_ge i l.size with h' | h'
      · simp [Array.getD, h'] at this hl; rw [this] at hl; cases hl
      · omega
  · exact Nat.le_trans List.countP_le_length (by simp)
  · refine ⟨_, (putAll_start _ 0 a hd).symm, fun j hj => ?_, ?_⟩
    · by_cases h : j < ops.size <;> simp [Array.getD, h] at hj
    have : (fun j => (Array.replicate ops.size false).getD j false) = fun _ => false := by
      funext j
      by_cases h : j < ops.size <;> simp [Array.getD, h]
    rw [this]
    exact h0 _
def AllOps (Φ : Nat → Oper → Prop) : Nat → List Oper → Prop
  | _, [] => True
  | i, o :: os => Φ i o ∧ AllOps Φ (i + 1) os
theorem AllOps.get {Φ : Nat → Oper → Prop} : ∀ (l : List Oper) (i : Nat), AllOps Φ i l → ∀ k o, l[k]? = some o → Φ (i + k) o := by
  intro l
  induction l with
  | nil => intro i _ k o h; simp at h
  | cons q l ih =>
    intro i h k o ho
    cases k with
    | zero => simp at ho; subst ho; exact h.1
    | succ k => have := ih (i + 1) h.2 k o (by simpa using ho); rw [show i + (k + 1) = i + 1 + k from by omega]; exact this
theorem wpOp_plain {i : Nat} {o : Oper} {a : Act} {w : World} {K : Act → World → Prop} (h : ops[i]? = some o) (hg : o.guard = none) (hw : o.wp P a w K Q) : wpOp P ops Q i K a w := by
  unfold wpOp
  simp only [h, Region.wanted, hg, if_true]
  exact .inl hw
def NoQ : Exit → Act → World → Prop := fun _ _ _ => False
theorem wp_noQ {o : Oper} {a : Act} {w : World} {K : Act → World → Prop} (h : o.wp P a w K NoQ) : o.wp P a w K Q := by
  unfold Oper.wp at *
  generalize (execOp a.eval o).run P w = r at *
  cases r with
  | ok n w' =>
    cases n <;> simp only [Oper.upon] at h ⊢ <;>
      first
        | exact h
        | exact Calls.mono h (fun e w'' he => by cases e <;> first | exact he | exact he.elim | (obtain ⟨_, _, hf⟩ := he; exact hf.elim))
  | halt x w' => cases x <;> simp only [Oper.upon] at h ⊢ <;> first | exact h | exact h.elim
/-- what slot t holds -/
def look (ds : List (Option Tmp)) (x : Nat → Value) (a : Act) (t : Tmp) : Value :=
  match ds.idxOf? (some t) with
  | some i => x i
  | none => a.tmps.getD t undef
theorem getD_put (a : Act) (d t : Tmp) (v : Value) (hd : d < a.tmps.size) : (a.put (some d) v).tmps.getD t undef = if d = t then v else a.tmps.getD t undef := by
  simp only [Act.put, Array.getD_eq_getD_getElem?, Array.getElem?_setIfInBounds]
  by_cases h : d = t
  · subst h; simp [hd]
  · simp [h]
theorem size_put (a : Act) (d : Option Tmp) (v : Value) : (a.put d v).tmps.size = a.tmps.size := by cases d <;> simp [Act.put]
def inD (n : Nat) (ds : List (Option Tmp)) : Bool := ds.all fun d => match d with | some t => decide (t < n) | none => true
theorem putAll_look : ∀ (ds : List (Option Tmp)) (i : Nat) (x : Nat → Value) (a : Act) (t : Tmp), apartD ds = true → inD a.tmps.size ds = true →
    (putAll ds i x a).tmps.getD t undef = match ds.idxOf? (some t) with | some k => x (i + k) | none => a.tmps.getD t undef := by
  intro ds
  induction ds with
  | nil => intro i x a t _ _; rfl
  | cons e ds ih =>
    intro i x a t hd hn
    simp only [apartD, Bool.and_eq_true] at hd
    simp only [inD, List.all_cons, Bool.and_eq_true] at hn
    rw [putAll, ih _ _ _ _ hd.2 (by rw [size_put]; exact hn.2), List.idxOf?_cons]
    by_cases he : e = some t
    · subst he
      have hnm : ds.idxOf? (some t) = none := by
        rw [List.idxOf?_eq_none_iff]
        have := hd.1
        simpa using this
      simp only [hnm, beq_self_eq_true, if_true, Nat.add_zero]
      rw [getD_put _ _ _ _ (by simpa using hn.1), if_pos rfl]
    · have hb : (e == some t) = false := by simpa using he
      rw [hb]
      simp only [Bool.false_eq_true, if_false]
      cases hk : ds.idxOf? (some t) with
      | some k => simp only [Option.map_some]; congr 1; omega
      | none =>
        simp only [Option.map_none]
        cases e with
        | none => rfl
        | some d =>
          rw [getD_put _ _ _ _ (by simpa using hn.1), if_neg (fun h => he (by rw [h]))]
/-- behind one operation -/
def StepPost (I : (Nat → Bool) → (Nat → Value) → World → Prop) (D : Nat → Bool) (x : Nat → Value) (i : Nat) (b : Act) (d : Option Tmp) (a' : Act) (w' : World) : Prop := ∃ v, a' = b.put d v ∧ I (upd D i true) (upd x i v) w'
theorem StepPost.mk' {I : (Nat → Bool) → (Nat → Value) → World → Prop} {D : Nat → Bool} {x : Nat → Value} {i : Nat} {b : Act} {d : Option Tmp} {w' : World} {v : Value} (h : I (upd D i true) (upd x i v) w') : StepPost I D x i b d (b.put d v) w' := ⟨v, rfl, h⟩
/-- the region by facts, no operation guarded -/
theorem wp_region_factsU {id : Nat} {l : List Oper} {a : Act} {w : World} (hm : P.follows .mixedOrders = true) (hd : apartD (dstOf l.toArray) = true) (hb : backD l.toArray = true) (hg : l.all (fun o => o.guard.isNone) = true) (hn : inD a.tmps.size (dstOf l.toArray) = true)
    (I : (Nat → Bool) → (Nat → Value) → World → Prop)
    (h0 : ∀ x, I (fun _ => false) x w.drew)
    (hstep : AllOps (fun i o => ∀ D x w (b : Act), I D x w → D i = false → (∀ j ∈ deps o, D j = true) → (∀ j, D j = true → ∀ k ∈ depsAt l.toArray j, D k = true) → (∀ t : Nat, b.tmps[t]?.getD undef = look (dstOf l.toArray) x a t) → o.wp P b w (StepPost I D x i b o.dst) NoQ) 0 l)
    (hend : ∀ D x w, I D x w → (∀ i, i < l.length → D i = true) → Q .normal (putAll (dstOf l.toArray) 0 x a) w) : (Code.region id l.toArray true).wp P Q a w := by
  refine wp_region_facts hm hd hb I h0 (fun i o ho D x w hI hD hdep hcl => ?_) (fun D x w hI h => hend D x w hI (by simpa using h))
  have ho' : l[i]? = some o := by simpa using ho
  refine wpOp_plain ho ?_ ?_
  · have := List.all_eq_true.1 hg o (List.mem_of_getElem? ho')
    simpa using this
  · have := hstep.get _ _ i o ho' D x w (putAll (dstOf l.toArray) 0 x a)
    rw [Nat.zero_add] at this
    refine wp_noQ (this hI hD hdep hcl (fun t => ?_))
    rw [← Array.getD_eq_getD_getElem?, putAll_look _ _ _ _ _ hd hn]
    unfold look
    simp only [Nat.zero_add]
theorem wp_of_run {I : (Nat → Bool) → (Nat → Value) → World → Prop} {D : Nat → Bool} {x : Nat → Value} {i : Nat} {o : Oper} {b : Act} {w w' : World} (v : Value) (h : (execOp b.eval o).run P w = .ok (.value v) w') (hK : I (upd D i true) (upd x i v) w') : o.wp P b w (StepPost I D x i b o.dst) NoQ := by
  unfold Oper.wp; rw [h]; exact StepPost.mk' hK
theorem wp_of_skip {I : (Nat → Bool) → (Nat → Value) → World → Prop} {D : Nat → Bool} {x : Nat → Value} {i : Nat} {o : Oper} {b : Act} {w w' : World} (h : (execOp b.eval o).run P w = .ok .skip w') (hK : I (upd D i true) (upd x i undef) w') : o.wp P b w (StepPost I D x i b o.dst) NoQ := by
  unfold Oper.wp; rw [h]; exact StepPost.mk' hK
end
end Go.Proofs.YtnmidhlghhephaaGreatDoor

namespace Go.Proofs.YtnmidhlghhephaaGreatDoor
open Go.RowKit
set_option linter.unusedVariables false
section
variable {α : Type}
/-- v is a slice of the call's own, from block base on, that holds xs -/
def OwnA (e : TypeId) (sz : Nat) (enc : α → List Value) (base : Nat) (w : World) (v : Value) (xs : List α) : Prop := w.ownsRow base e sz v xs.length (xs.flatMap enc)
/-- u is a slice that reads as ys -/
def SlA (enc : α → List Value) (w : World) (u : Value) (ys : List α) : Prop :=
  ∃ A c, u = .slice A ys.length c ∧ ys.length ≤ c ∧ ∀ j q, (ys.flatMap enc)[j]? = some q → ∃ b o, A = some ⟨b, o, none⟩ ∧ w.cell? ⟨b, o + j, none⟩ = some q
/-- the same, whatever the capacity -/
def SlA0 (enc : α → List Value) (w : World) (u : Value) (ys : List α) : Prop :=
  ∃ A c, u = .slice A ys.length c ∧ ∀ j q, (ys.flatMap enc)[j]? = some q → ∃ b o, A = some ⟨b, o, none⟩ ∧ w.cell? ⟨b, o + j, none⟩ = some q
variable {e : TypeId} {sz : Nat} {enc : α → List Value} {base : Nat} {w w' : World} {v u : Value} {xs ys : List α}
theorem SlA.weak (h : SlA enc w u ys) : SlA0 enc w u ys := by
  obtain ⟨A, c, e, _, hx⟩ := h
  exact ⟨A, c, e, hx⟩
theorem OwnA.form (h : OwnA e sz enc base w v xs) : ∃ A c, v = .slice A xs.length c := by
  rcases h.2 with ⟨rfl, h0⟩ | ⟨g, cap, cur, rfl, _⟩
  · exact ⟨none, 0, by rw [h0]⟩
  · exact ⟨_, _, rfl⟩
theorem OwnA.lt (h : OwnA e sz enc base w v xs) : ∀ k, v.ownBlock = some k → k < w.heap.size := by
  intro k hk
  rcases h.2 with ⟨rfl, h0⟩ | ⟨b, cap, cur, rfl, hg, hh, r⟩
  · simp [Value.ownBlock] at hk
  · simp [Value.ownBlock] at hk
    subst hk
    exact (Array.getElem?_eq_some_iff.1 hh).1
theorem OwnA.block (h : OwnA e sz enc base w v xs) : ∀ k, v.ownBlock = some k → base ≤ k := by
  intro k hk
  rcases h.2 with ⟨rfl, h0⟩ | ⟨g, cap, cur, rfl, hg, _⟩
  · simp [Value.ownBlock] at hk
  · simp [Value.ownBlock] at hk; omega
theorem OwnA.keepK (h : OwnA e sz enc base w v xs) (hk : ∀ k, v.ownBlock = some k → w'.heap[k]? = w.heap[k]?) : OwnA e sz enc base w' v xs := by
  refine ⟨h.1, ?_⟩
  rcases h.2 with h0 | ⟨b, cap, cur, rfl, hg, hh, r⟩
  · exact .inl h0
  · exact .inr ⟨b, cap, cur, rfl, hg, (hk b rfl).trans hh, r⟩
theorem OwnA.below (h : OwnA e sz enc base w v xs) (hb : Below w.heap.size w w') : OwnA e sz enc base w' v xs := h.keepK fun k hk => hb.block k (h.lt k hk)
theorem OwnA.alloc (h : OwnA e sz enc base w v xs) (o : Obj) : OwnA e sz enc base (w.alloc o) v xs := h.below ((Below.refl _ _).alloc (Nat.le_refl _) o)
theorem OwnA.low {b2 : Nat} (h : OwnA e sz enc base w v xs) (hb : b2 ≤ base) : OwnA e sz enc b2 w v xs := by
  refine ⟨h.1, ?_⟩
  rcases h.2 with h0 | ⟨g, cap, cur, rfl, hg, r⟩
  · exact .inl h0
  · exact .inr ⟨g, cap, cur, rfl, Nat.le_trans hb hg, r⟩
theorem OwnA.nil (e : TypeId) (sz : Nat) (enc : α → List Value) (base : Nat) (w : World) : OwnA e sz enc base w (.slice none 0 0) [] := ⟨by simp, .inl ⟨rfl, rfl⟩⟩
theorem SlA.below (h : SlA enc w u ys) (hb : Below w.heap.size w w') : SlA enc w' u ys := by
  obtain ⟨A, c, hu, hc, hx⟩ := h
  refine ⟨A, c, hu, hc, fun j q hq => ?_⟩
  obtain ⟨b, o, hA, hcell⟩ := hx j q hq
  exact ⟨b, o, hA, (hb.cell (block_lt_of_cell hcell)).trans hcell⟩
theorem SlA.nil (enc : α → List Value) (w : World) : SlA enc w (.slice none 0 0) ([] : List α) := ⟨none, 0, rfl, Nat.le_refl _, fun j q h => by simp at h⟩
theorem OwnA.sl (h : OwnA e sz enc base w v xs) : SlA enc w v xs := by
  rcases h.2 with ⟨rfl, h0⟩ | ⟨g, cap, cur, rfl, hg, hh, hn, _, hc, ht⟩
  · have : xs = [] := List.eq_nil_of_length_eq_zero h0
    subst this
    exact SlA.nil enc w
  · refine ⟨_, _, rfl, hn, fun j q hq => ⟨g, 0, rfl, ?_⟩⟩
    rw [cell_of_row w g _ cur e (0, 0) hh, Nat.zero_add]
    have h1 : (cur.toList.take (xs.length * sz))[j]? = some q := by rw [ht]; exact hq
    rw [List.getElem?_take] at h1
    split at h1
    · simpa using h1
    · cases h1
/-- a literal in a block of its own -/
theorem OwnA.lit (hsz : ∀ x ∈ xs, (enc x).length = sz) (hb : base ≤ w.heap.size) (hl : xs.length ≤ 1000000) (hn : xs ≠ []) : OwnA e sz enc base (w.alloc (.cells (rowOf (xs.flatMap enc)) e)) (.slice (some ⟨w.heap.size, 0, none⟩) xs.length xs.length) xs := by
  have hlen : (xs.flatMap enc).length = xs.length * sz := by
    clear hl hn
    induction xs with
    | nil => simp
    | cons x xs ih => rw [List.flatMap_cons, List.length_append, ih (fun y hy => hsz y (List.mem_cons_of_mem _ hy)), hsz x (List.mem_cons_self ..), List.length_cons, Nat.succ_mul]; omega
  refine ⟨hlen, .inr ⟨w.heap.size, xs.length, rowOf (xs.flatMap enc), rfl, hb, heap_alloc_new w _, Nat.le_refl _, by unfold maxLen; omega, by unfold rowOf; simp [hlen], ?_⟩⟩
  show List.take (xs.length * sz) (xs.flatMap enc) = _
  exact List.take_of_length_le (by omega)
/-- the run of append(v, u...), with where the result lies -/
theorem run_appA0 {P : Program} {t ty : TypeId} {i : TypeInfo} {z : Value} {bytes : Nat} (ht : P.underlying t = some (.slice e)) (hi : P.info? e = some i) (hz : i.zero = some z) (hs : i.size = sz) (hby : i.bytes = bytes) (hzs : z.cells.size = sz) (hsz0 : 0 < sz) (hb16 : bytes ≤ 64)
    (hsz : ∀ x ∈ ys, (enc x).length = sz) (hone : ∀ x ∈ ys, ∀ q ∈ enc x, q.oneCell' = true)
    (h : OwnA e sz enc base w v xs) (hu : SlA0 enc w u ys) (hlen : xs.length + ys.length ≤ 1000000000) (hbase : base ≤ w.heap.size) :
    ∃ v' w', (Builtin.append_ #[t, t] ty #[v, u]).run P w = .ok v' w' ∧ OwnA e sz enc base w' v' (xs ++ ys) ∧ Below base w w' ∧ (∀ k, k < w.heap.size → v.ownBlock ≠ some k → w'.heap[k]? = w.heap[k]?) ∧ (v'.ownBlock = v.ownBlock ∨ v'.ownBlock = some w.heap.size) := by
  obtain ⟨A, c, rfl, hx⟩ := hu
  have hylen : (ys.flatMap enc).length = ys.length * sz := by
    clear hx hlen hone
    induction ys with
    | nil => simp
    | cons x xs ih => rw [List.flatMap_cons, List.length_append, ih (fun y hy => hsz y (List.mem_cons_of_mem _ hy)), hsz x (List.mem_cons_self ..), List.length_cons, Nat.succ_mul]; omega
  cases A with
  | none =>
    have hy : ys = [] := by
      cases ys with
      | nil => rfl
      | cons y ys =>
        exfalso
        have h0 : 0 < ((y :: ys).flatMap enc).length := by rw [hylen, List.length_cons]; exact Nat.mul_pos (by omega) hsz0
        obtain ⟨b, o, hA, _⟩ := hx 0 _ (List.getElem?_eq_getElem h0)
        cases hA
    subst hy
    refine ⟨v, w, ?_, by simpa using h, Below.refl _ _, fun _ _ _ => rfl, .inl rfl⟩
    rcases h.2 with ⟨rfl, h0⟩ | ⟨g, cap, cur, rfl, _, _, hnc, _⟩
    · simp [Builtin.append_, run_underlying ht, sizeOf, typeInfo, hi, Builtin.lenOf, Builtin.firstCells]
    · simp [Builtin.append_, run_underlying ht, sizeOf, typeInfo, hi, Builtin.lenOf, Builtin.firstCells, hnc, storeCells]
  | some ad =>
    have hcells : ∀ j q, (ys.flatMap enc)[j]? = some q → w.cell? (ad.add j) = some q := by
      intro j q hq
      obtain ⟨b, o, hA, hcell⟩ := hx j q hq
      injection hA with hA
      subst hA
      have : (⟨b, o, none⟩ : Addr).add j = ⟨b, o + j, none⟩ := by unfold Addr.add; split <;> simp_all
      rw [this]; exact hcell
    obtain ⟨v', w', hrun, h2, h3, _, h5⟩ := run_append_own_at (P := P) w base t ty e i z sz bytes ht hi hz hs hby hzs hsz0 v xs.length (xs.flatMap enc) h ad ys.length c (ys.flatMap enc) hylen hcells
      (by intro q hq; obtain ⟨y, hy, hq2⟩ := List.mem_flatMap.1 hq; exact hone y hy q hq2) (by unfold maxLen; omega) (Nat.le_trans (Nat.mul_le_mul hlen hb16) (by omega)) hbase
    refine ⟨v', w', hrun, ?_, (Below.refl _ _).grown h3 hbase h.block, fun k hk hne => h3.block k hk (fun e => hne e.symm), h5⟩
    unfold OwnA
    rw [List.length_append, List.flatMap_append]
    exact h2
theorem run_appA {P : Program} {t ty : TypeId} {i : TypeInfo} {z : Value} {bytes : Nat} (ht : P.underlying t = some (.slice e)) (hi : P.info? e = some i) (hz : i.zero = some z) (hs : i.size = sz) (hby : i.bytes = bytes) (hzs : z.cells.size = sz) (hsz0 : 0 < sz) (hb16 : bytes ≤ 64)
    (hsz : ∀ x ∈ ys, (enc x).length = sz) (hone : ∀ x ∈ ys, ∀ q ∈ enc x, q.oneCell' = true)
    (h : OwnA e sz enc base w v xs) (hu : SlA enc w u ys) (hlen : xs.length + ys.length ≤ 1000000000) (hbase : base ≤ w.heap.size) :
    ∃ v' w', (Builtin.append_ #[t, t] ty #[v, u]).run P w = .ok v' w' ∧ OwnA e sz enc base w' v' (xs ++ ys) ∧ Below base w w' ∧ (∀ k, k < w.heap.size → v.ownBlock ≠ some k → w'.heap[k]? = w.heap[k]?) ∧ (v'.ownBlock = v.ownBlock ∨ v'.ownBlock = some w.heap.size) :=
  run_appA0 ht hi hz hs hby hzs hsz0 hb16 hsz hone h hu.weak hlen hbase
theorem append_typesA {P : Program} {t t2 ty : TypeId} (ht : P.underlying t = some (.slice e)) (ht2 : P.underlying t2 = some (.slice e)) : (Builtin.append_ #[t, t2] ty #[v, u]).run P w = (Builtin.append_ #[t, t] ty #[v, u]).run P w := by
  unfold Builtin.append_
  cases v <;> simp [run_underlying ht, run_underlying ht2, Sem.run_bind]
/-- what a kind of element owes -/
structure ElA (P : Program) (e : TypeId) (sz : Nat) (enc : α → List Value) : Prop where
  ex : ∃ i z bytes, P.info? e = some i ∧ i.zero = some z ∧ i.size = sz ∧ i.bytes = bytes ∧ z.cells.size = sz ∧ bytes ≤ 64
  pos : 0 < sz
  len : ∀ x, (enc x).length = sz
  one : ∀ x, ∀ q ∈ enc x, q.oneCell' = true
theorem wp_appA {P : Program} {o : Oper} {a : Act} {K : Act → World → Prop} {Q : Exit → Act → World → Prop} (E : ElA P e sz enc) (s x : Operand) (t t2 : TypeId) (ho : o.op = .call { callee := .builtin .append, args := #[s, x], argTypes := #[t, t2] })
    (ht : P.underlying t = some (.slice e)) (ht2 : P.underlying t2 = some (.slice e))
    (hv : a.eval s = v) (h : OwnA e sz enc base w v xs) (hx : a.eval x = u) (hu : SlA enc w u ys) (hlen : xs.length + ys.length ≤ 1000000000) (hbase : base ≤ w.heap.size)
    (hK : ∀ v' w', OwnA e sz enc base w' v' (xs ++ ys) → Below base w w' → (∀ k, k < w.heap.size → v.ownBlock ≠ some k → w'.heap[k]? = w.heap[k]?) → (v'.ownBlock = v.ownBlock ∨ v'.ownBlock = some w.heap.size) → K (a.put o.dst v') w') : o.wp P a w K Q := by
  obtain ⟨i, z, bytes, hi, hz, hs, hby, hzs, hb⟩ := E.ex
  obtain ⟨v', w', hrun, h1, h2, h3, h4⟩ := run_appA (P := P) (ty := o.type) ht hi hz hs hby hzs E.pos hb (fun x _ => E.len x) (fun x _ => E.one x) h hu hlen hbase
  unfold Oper.wp execOp
  simp only [ho, resolve, invoke, builtin, Sem.run_bind, Sem.run_pure, Result.andThen_ok, List.map_toArray, List.map_cons, List.map_nil, hv, hx, (append_typesA ht ht2).trans hrun]
  exact hK v' w' h1 h2 h3 h4
theorem wpList_appA {P : Program} {ops : Array Oper} {rest : List Oper} {o : Oper} {a : Act} {Q : Exit → Act → World → Prop} (hgd : o.guard = none) (E : ElA P e sz enc) (s x : Operand) (t t2 : TypeId) (ho : o.op = .call { callee := .builtin .append, args := #[s, x], argTypes := #[t, t2] })
    (ht : P.underlying t = some (.slice e)) (ht2 : P.underlying t2 = some (.slice e))
    (hv : a.eval s = v) (h : OwnA e sz enc base w v xs) (hx : a.eval x = u) (hu : SlA enc w u ys) (hlen : xs.length + ys.length ≤ 1000000000) (hbase : base ≤ w.heap.size)
    (hK : ∀ v' w', OwnA e sz enc base w' v' (xs ++ ys) → Below base w w' → (∀ k, k < w.heap.size → v.ownBlock ≠ some k → w'.heap[k]? = w.heap[k]?) → (v'.ownBlock = v.ownBlock ∨ v'.ownBlock = some w.heap.size) → wpList P ops Q rest (a.put o.dst v') w') : wpList P ops Q (o :: rest) a w :=
  wpList_plain hgd fun _ hk => wp_appA E s x t t2 ho ht ht2 hv h hx hu hlen hbase fun v' w' h1 h2 h3 h4 => hk _ _ (hK v' w' h1 h2 h3 h4)
end
section
variable {α : Type} {e : TypeId} {sz : Nat} {enc : α → List Value} {B : Nat} {w0 w w' : World} {ev : Nat → Option Value} {S : List (Nat × Nat × List α)} {c cu f : Nat} {LF LIT : List α} {D : Nat → Bool} {x : Nat → Value}
end
end Go.Proofs.YtnmidhlghhephaaGreatDoor

namespace Go.Proofs.YtnmidhlghhephaaGreatDoor
open Go.RowKit
set_option linter.unusedVariables false
/-- a term as cells -/
def tB (t : T2) : List Value := [.int .i64 t.1.1, .int .i64 t.1.2, .int .i64 t.2]
/-- a block of terms -/
def TBb (w : World) (b : Nat) : Prop := ∃ cs fr, w.heap[b]? = some (.cells cs 49 fr)
/-- a slice that reads as terms, in a block of terms -/
def TmB (w : World) (v : Value) (l : List T2) : Prop :=
  ∃ A c, v = .slice A l.length c ∧ ∀ k (h : k < l.length), ∃ b o, A = some ⟨b, o, none⟩ ∧ w.cell? ⟨b, o + k * 3, none⟩ = some (.int .i64 l[k].1.1) ∧ w.cell? ⟨b, o + k * 3 + 1, none⟩ = some (.int .i64 l[k].1.2) ∧ w.cell? ⟨b, o + k * 3 + 2, none⟩ = some (.int .i64 l[k].2) ∧ TBb w b
/-- all blocks but those of the type T are kept -/
def Kp (T : TypeId) (w w' : World) : Prop := ∀ (k : Nat) (cs : Array Value) (t : TypeId) (fr : Nat × Nat), w.heap[k]? = some (Obj.cells cs t fr) → t ≠ T → w'.heap[k]? = w.heap[k]?
theorem heap_ltB {w : World} {k : Nat} {o : Obj} (h : w.heap[k]? = some o) : k < w.heap.size := (Array.getElem?_eq_some_iff.1 h).1
theorem Kp.trans {T : TypeId} {w w1 w2 : World} (h : Kp T w w1) (h2 : Kp T w1 w2) : Kp T w w2 := fun k cs t fr hh hne => by
  have e1 := h k cs t fr hh hne
  exact (h2 k cs t fr (e1.trans hh) hne).trans e1
theorem Kp.below {T : TypeId} {w w' : World} (hb : Below w.heap.size w w') : Kp T w w' := fun k cs t fr h _ => hb.block k (heap_ltB h)
theorem Kp.refl (T : TypeId) (w : World) : Kp T w w := fun _ _ _ _ _ _ => rfl
theorem Kp.set {W : World} {g i : Nat} {T : TypeId} {cs : List Value} (h : Arr W g T cs) (u : Value) : Kp T W (W.setCell ⟨g, i, none⟩ u) := fun k cs' t fr hh hne => Below.heap_setCell W ⟨g, i, none⟩ u k (fun e => by
  subst e
  unfold Arr at h
  rw [h] at hh
  injection hh with hh
  injection hh with _ h2 _
  exact hne h2.symm)
theorem Arr.kp {T : TypeId} {w w' : World} {g : Nat} {t : TypeId} {cs : List Value} (h : Arr w g t cs) (hk : Kp T w w') (hne : t ≠ T) : Arr w' g t cs := (hk g _ t _ h hne).trans h
theorem TmB.keepT {w w' : World} {v : Value} {l : List T2} (h : TmB w v l) (hk : ∀ b, TBb w b → w'.heap[b]? = w.heap[b]?) : TmB w' v l := by
  obtain ⟨A, c, hv, hx⟩ := h
  refine ⟨A, c, hv, fun k hk2 => ?_⟩
  obtain ⟨b, o, hA, h1, h2, h3, h4⟩ := hx k hk2
  have hb := hk b h4
  refine ⟨b, o, hA, ?_, ?_, ?_, ?_⟩
  · rw [World.cell?_of_block (a := ⟨b, o + k * 3, none⟩) hb]; exact h1
  · rw [World.cell?_of_block (a := ⟨b, o + k * 3 + 1, none⟩) hb]; exact h2
  · rw [World.cell?_of_block (a := ⟨b, o + k * 3 + 2, none⟩) hb]; exact h3
  · obtain ⟨cs, fr, h5⟩ := h4
    exact ⟨cs, fr, hb.trans h5⟩
theorem TmB.kp {T : TypeId} {w w' : World} {v : Value} {l : List T2} (h : TmB w v l) (hk : Kp T w w') (hne : 49 ≠ T) : TmB w' v l := h.keepT fun b ⟨cs, fr, hh⟩ => hk b cs _ fr hh hne
theorem TmB.below {w w' : World} {v : Value} {l : List T2} (h : TmB w v l) (hb : Below w.heap.size w w') : TmB w' v l := h.keepT fun b ⟨cs, fr, hh⟩ => hb.block b (heap_ltB hh)
theorem TmB.nil (w : World) : TmB w (.slice none 0 0) [] := ⟨none, 0, rfl, fun k h => (by simp at h)⟩
theorem TmB.at_ {w : World} {A : Option Addr} {n c k : Nat} {l : List T2} (h : TmB w (.slice A n c) l) (hk : k < l.length) :
    ∃ b o, A = some ⟨b, o, none⟩ ∧ n = l.length ∧ w.cell? ⟨b, o + k * 3, none⟩ = some (.int .i64 l[k].1.1) ∧ w.cell? ⟨b, o + k * 3 + 1, none⟩ = some (.int .i64 l[k].1.2) ∧ w.cell? ⟨b, o + k * 3 + 2, none⟩ = some (.int .i64 l[k].2) := by
  obtain ⟨A', c', hv, hx⟩ := h
  injection hv with e1 e2 e3
  subst e1
  obtain ⟨b, o, hA, h1, h2, h3, _⟩ := hx k hk
  exact ⟨b, o, hA, e2, h1, h2, h3⟩
theorem TmB.cells {w : World} {b o n c k : Nat} {l : List T2} (h : TmB w (.slice (some ⟨b, o, none⟩) n c) l) (hk : k < l.length) : w.cell? ⟨b, o + k * 3, none⟩ = some (.int .i64 l[k].1.1) ∧ w.cell? ⟨b, o + k * 3 + 1, none⟩ = some (.int .i64 l[k].1.2) ∧ w.cell? ⟨b, o + k * 3 + 2, none⟩ = some (.int .i64 l[k].2) := by
  obtain ⟨b', o', hA, _, h1, h2, h3⟩ := h.at_ hk
  injection hA with hA
  injection hA with h4 h5
  subst h4 h5
  exact ⟨h1, h2, h3⟩
/-- a slice of the call's own that holds terms -/
abbrev OwnB (base : Nat) (w : World) (v : Value) (l : List T2) : Prop := OwnA 49 3 tB base w v l
theorem tBflat_get : ∀ (l : List T2) (k j : Nat) (h : k < l.length), j < 3 → (l.flatMap tB)[k * 3 + j]? = (tB l[k])[j]? := by
  intro l
  induction l with
  | nil => intro k j h; simp at h
  | cons m l ih =>
    intro k j h hj
    rw [List.flatMap_cons]
    cases k with
    | zero => rw [List.getElem?_append_left (by simp [tB]; omega)]; simp
    | succ k =>
      rw [List.getElem?_append_right (by simp [tB]; omega)]
      have := ih k j (by simpa using h) hj
      rw [show (k + 1) * 3 + j - (tB m).length = k * 3 + j from by simp [tB]; omega, this]
      simp
theorem OwnB.tmB {base : Nat} {w : World} {v : Value} {l : List T2} (h : OwnB base w v l) : TmB w v l := by
  rcases h.2 with ⟨rfl, h0⟩ | ⟨g, cap, cur, rfl, hg, hh, hn, _, hc, ht⟩
  · have : l = [] := List.eq_nil_of_length_eq_zero h0
    subst this
    exact TmB.nil w
  · have key : ∀ k (hk : k < l.length) j u, (tB l[k])[j]? = some u → w.cell? ⟨g, 0 + k * 3 + j, none⟩ = some u := by
      intro k hk j u hu
      have hj : j < 3 := (List.getElem?_eq_some_iff.1 hu).1
      rw [cell_of_row w g _ cur 49 (0, 0) hh, Nat.zero_add]
      have h1 : (cur.toList.take (l.length * 3))[k * 3 + j]? = some u := by rw [ht, tBflat_get l k j hk hj, hu]
      rw [List.getElem?_take, if_pos (by omega)] at h1
      simpa using h1
    exact ⟨_, _, rfl, fun k hk => ⟨g, 0, rfl, key k hk 0 _ rfl, key k hk 1 _ rfl, key k hk 2 _ rfl, _, _, hh⟩⟩
theorem OwnA.typB {α : Type} {e : TypeId} {sz : Nat} {enc : α → List Value} {base : Nat} {w : World} {v : Value} {xs : List α} (h : OwnA e sz enc base w v xs) : ∀ k, v.ownBlock = some k → ∃ cs fr, w.heap[k]? = some (.cells cs e fr) := by
  intro k hk
  rcases h.2 with ⟨rfl, h0⟩ | ⟨g, cap, cur, rfl, _, hh, _⟩
  · cases hk
  · have : g = k := Option.some.inj hk
    subst this
    exact ⟨_, _, hh⟩
theorem OwnA.kp {α : Type} {e : TypeId} {sz : Nat} {enc : α → List Value} {base : Nat} {w w' : World} {v : Value} {xs : List α} {T : TypeId} (h : OwnA e sz enc base w v xs) (hk : Kp T w w') (hne : e ≠ T) : OwnA e sz enc base w' v xs := h.keepK fun k hk2 => by
  obtain ⟨cs, fr, hh⟩ := h.typB k hk2
  exact hk k cs e fr hh hne
theorem OwnA.apartB {α : Type} {e : TypeId} {sz : Nat} {enc : α → List Value} {base : Nat} {w : World} {v : Value} {xs : List α} (h : OwnA e sz enc base w v xs) {g : Nat} {t : TypeId} {cs : List Value} (hg : Arr w g t cs) (hne : e ≠ t) : v.ownBlock ≠ some g := by
  intro hk
  obtain ⟨cs', fr', hh⟩ := h.typB g hk
  unfold Arr at hg
  rw [hg] at hh
  injection hh with hh
  injection hh with _ h2 _
  exact hne h2.symm
abbrev PolB := Option (List T2)
/-- a polynomial as a value -/
def PolyB (w : World) (v : Value) (p : PolB) : Prop := ∃ A c, v = .agg #[.bool p.isNone, .slice A (p.getD []).length c] ∧ TmB w (.slice A (p.getD []).length c) (p.getD [])
theorem PolyB.below {w w' : World} {v : Value} {p : PolB} (h : PolyB w v p) (hb : Below w.heap.size w w') : PolyB w' v p := by
  obtain ⟨A, c, hv, hx⟩ := h
  exact ⟨A, c, hv, hx.below hb⟩
theorem PolyB.kp {T : TypeId} {w w' : World} {v : Value} {p : PolB} (h : PolyB w v p) (hk : Kp T w w') (hne : 49 ≠ T) : PolyB w' v p := by
  obtain ⟨A, c, hv, hx⟩ := h
  exact ⟨A, c, hv, hx.kp hk hne⟩
theorem PolyB.big (w : World) : PolyB w (.agg #[.bool true, .slice none 0 0]) none := ⟨none, 0, rfl, TmB.nil w⟩
theorem PolyB.zero (w : World) : PolyB w (.agg #[.bool false, .slice none 0 0]) (some []) := ⟨none, 0, rfl, TmB.nil w⟩
theorem PolyB.of_tm {w : World} {A : Option Addr} {n c : Nat} {l : List T2} (h : TmB w (.slice A n c) l) : PolyB w (.agg #[.bool false, .slice A n c]) (some l) := by
  obtain ⟨A', c', hv, hx⟩ := id h
  injection hv with e1 e2 e3
  subst e1 e2 e3
  exact ⟨A, c, rfl, h⟩
theorem PolyB.parts {w : World} {v : Value} {p : PolB} (h : PolyB w v p) : ∃ (b : Bool) (A : Option Addr) (n c : Nat), v = .agg #[.bool b, .slice A n c] ∧ b = p.isNone ∧ n = (p.getD []).length := by
  obtain ⟨A, c, hv, _⟩ := h
  exact ⟨_, A, _, c, hv, rfl, rfl⟩
theorem PolyB.tm {w : World} {b : Bool} {A : Option Addr} {n c : Nat} {p : PolB} (h : PolyB w (.agg #[.bool b, .slice A n c]) p) : TmB w (.slice A n c) (p.getD []) := by
  obtain ⟨A', c', hv, hx⟩ := h
  simp only [Value.agg.injEq, Array.mk.injEq, List.cons.injEq, Value.bool.injEq, Value.slice.injEq, and_true] at hv
  obtain ⟨h1, h2, h3, h4⟩ := hv
  subst h2 h3 h4
  exact hx
def okB2 : PolB → Prop
  | none => True
  | some l => Can2 l ∧ Lim2 l
/-- the limits -/
def inB (e : K2) (c : Int) : Prop := (-1125899906842624 ≤ c ∧ c ≤ 1125899906842624) ∧ (-1048576 ≤ e.1 ∧ e.1 ≤ 1048576) ∧ (-1048576 ≤ e.2 ∧ e.2 ≤ 1048576)
/-- the polynomial with the coefficients F, if they are within the limits -/
def GthP (F : K2 → Int) (r : PolB) : Prop := (∃ l, r = some l ∧ Can2 l ∧ Lim2 l ∧ ∀ e, cg2 l e = F e) ∨ (r = none ∧ ∃ e, F e ≠ 0 ∧ ¬ inB e (F e))
def CombB (f : Int → Int → Int) : PolB → PolB → PolB → Prop
  | some p, some q, r => GthP (fun e => f (cg2 p e) (cg2 q e)) r
  | _, _, r => r = none
theorem info_polyB : (Tryz.prog.info? 29).map (·.size) = some 2 := by kernel_rfl
theorem info_termB : (Tryz.prog.info? 49).map (fun i => (i.zero, i.size, i.bytes)) = some (some (.agg #[.int .i64 0, .int .i64 0, .int .i64 0]), 3, 24) := by kernel_rfl
theorem elB : ElA Tryz.prog 49 3 tB where
  ex := by
    obtain ⟨i, hi, hz, hs, hb⟩ := info_parts info_termB
    exact ⟨i, _, 24, hi, hz, hs, hb, rfl, by omega⟩
  pos := by omega
  len := fun x => rfl
  one := fun x q h => by unfold tB at h; simp at h; rcases h with rfl | rfl | rfl <;> rfl
end Go.Proofs.YtnmidhlghhephaaGreatDoor

namespace Go.Proofs.YtnmidhlghhephaaGreatDoor
set_option linter.unusedVariables false
/-- degree of the generator of a letter -/
def cg (comp : List Int) (k : Int) : Int := comp[k.toNat]?.getD 0
end Go.Proofs.YtnmidhlghhephaaGreatDoor

namespace Go.Proofs.YtnmidhlghhephaaGreatDoor
open Go.RowKit
set_option linter.unusedVariables false
/-- every operation before the last is needed by a later one -/
def needB (ops : Array Oper) (n : Nat) : Bool := (List.range n).all fun i => (List.range (n + 1)).any fun j => decide (i < j) && (depsAt ops j).contains i
theorem need_all {ops : Array Oper} {n : Nat} (h : needB ops n = true) {D : Nat → Bool} (hcl : ∀ j, D j = true → ∀ k ∈ depsAt ops j, D k = true) (hn : D n = true) : ∀ q i, i ≤ n → n - i ≤ q → D i = true := by
  intro q
  induction q with
  | zero => intro i h1 h2; obtain rfl : i = n := by omega
            exact hn
  | succ q ih =>
    intro i h1 h2
    by_cases e : i = n
    · rw [e]; exact hn
    · have h3 := List.all_eq_true.1 h i (by simp; omega)
      obtain ⟨j, hj, h4⟩ := List.any_eq_true.1 h3
      simp only [Bool.and_eq_true, decide_eq_true_eq, List.contains_iff_mem] at h4
      simp only [List.mem_range] at hj
      exact hcl j (ih j (by omega) (by omega)) i h4.2
section
variable {P : Program} {Q : Exit → Act → World → Prop}
variable {w : World} {ev : Nat → Value} {S : World → World} {n i m : Nat} {b : Act} {o : Oper}
end
end Go.Proofs.YtnmidhlghhephaaGreatDoor

namespace Go.Proofs.YtnmidhlghhephaaGreatDoor
set_option linter.unusedVariables false
def asum : List (Int × Int) → Nat
  | [] => 0
  | t :: l => t.2.natAbs + asum l
/-- the terms of consecutive coefficients -/
def ofL : Int → List Int → List (Int × Int)
  | _, [] => []
  | low, c :: cs => (if c = 0 then [] else [(low, c)]) ++ ofL (low + 1) cs
def ofB : Int → List Int → Bool
  | _, [] => true
  | low, c :: cs => (c == 0 || (decide (-1125899906842624 ≤ c ∧ c ≤ 1125899906842624) && decide (-1048576 ≤ low ∧ low ≤ 1048576))) && ofB (low + 1) cs
def ofP (low : Int) (cs : List Int) : Option (List (Int × Int)) := if ofB low cs = true then some (ofL low cs) else none
theorem ofL_snoc (low : Int) (cs : List Int) (c : Int) : ofL low (cs ++ [c]) = ofL low cs ++ (if c = 0 then [] else [(low + cs.length, c)]) := by
  induction cs generalizing low with
  | nil => simp [ofL]
  | cons d cs ih =>
    rw [List.cons_append, ofL, ofL, ih, List.append_assoc, List.length_cons]
    congr 2
    have : low + 1 + (cs.length : Int) = low + ((cs.length + 1 : Nat) : Int) := by omega
    rw [this]
theorem ofB_snoc (low : Int) (cs : List Int) (c : Int) : ofB low (cs ++ [c]) = (ofB low cs && (c == 0 || (decide (-1125899906842624 ≤ c ∧ c ≤ 1125899906842624) && decide (-1048576 ≤ low + cs.length ∧ low + cs.length ≤ 1048576)))) := by
  induction cs generalizing low with
  | nil => simp [ofB]
  | cons d cs ih =>
    rw [List.cons_append, ofB, ofB, ih, Bool.and_assoc, List.length_cons]
    have : low + 1 + (cs.length : Int) = low + ((cs.length + 1 : Nat) : Int) := by omega
    rw [this]
theorem ofB_take {low : Int} {cs : List Int} {k : Nat} (h : ofB low (cs.take k) = false) : ofB low cs = false := by
  induction cs generalizing low k with
  | nil => simp [ofB] at h
  | cons c cs ih =>
    cases k with
    | zero => simp [ofB] at h
    | succ k =>
      rw [List.take_succ_cons, ofB, Bool.and_eq_false_iff] at h
      rw [ofB, Bool.and_eq_false_iff]
      rcases h with h | h
      · exact .inl h
      · exact .inr (ih h)
theorem ofL_len (low : Int) (cs : List Int) : (ofL low cs).length ≤ cs.length := by
  induction cs generalizing low with
  | nil => simp [ofL]
  | cons c cs ih =>
    rw [ofL, List.length_append, List.length_cons]
    have := ih (low + 1)
    split <;> simp <;> omega
end Go.Proofs.YtnmidhlghhephaaGreatDoor
