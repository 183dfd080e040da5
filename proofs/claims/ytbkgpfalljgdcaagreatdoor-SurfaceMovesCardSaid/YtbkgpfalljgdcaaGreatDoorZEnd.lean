/- polymatrix.field.transform: plain functions. -/
/- The end of a region that draws its order, where one slot alone is read afterwards. -/
import Derived.Test.YtbkgpfalljgdcaaGreatDoorZMdt
namespace Go.Proofs.YtbkgpfalljgdcaaGreatDoor
open Go.RowKit
set_option linter.unusedVariables false

/-- powers of the root, as the loop makes them -/
def twF (p r : Nat) : Nat → Nat
  | 0 => 1
  | i + 1 => twF p r i * r % p
theorem twF_lt {p : Nat} (hp : 1 < p) (r : Nat) : ∀ i, twF p r i < p
  | 0 => hp
  | i + 1 => Nat.mod_lt _ (by omega)
def evL (c : List Nat) (h : Nat) : List Nat := (List.range h).map fun i => gn c (2 * i)
def odL (c : List Nat) (h : Nat) : List Nat := (List.range h).map fun i => gn c (2 * i + 1)
theorem evL_length (c : List Nat) (h : Nat) : (evL c h).length = h := by simp [evL]
theorem odL_length (c : List Nat) (h : Nat) : (odL c h).length = h := by simp [odL]
def bfly (p r h : Nat) (E O : List Nat) (k : Nat) : Nat := if k < h then addF p (gn E k) (twF p r k * gn O k % p) else subF p (gn E (k - h)) (twF p r (k - h) * gn O (k - h) % p)
/-- what transform returns -/
def trF (p : Nat) : Nat → List Nat → Nat → List Nat
  | 0, c, r => [gn c 0]
  | d + 1, c, r => (List.range (2 * 2 ^ d)).map (bfly p r (2 ^ d) (trF p d (evL c (2 ^ d)) (r * r % p)) (trF p d (odL c (2 ^ d)) (r * r % p)))
theorem trF_length (p : Nat) : ∀ (d : Nat) (c : List Nat) (r : Nat), (trF p d c r).length = 2 ^ d
  | 0, c, r => rfl
  | d + 1, c, r => by rw [trF, List.length_map, List.length_range, Nat.pow_succ]; omega
theorem bfly_lt {p r h : Nat} {E O : List Nat} (hp : 0 < p) (hE : ∀ j, gn E j < p) (k : Nat) : bfly p r h E O k < p := by
  unfold bfly; split
  · exact addF_lt (hE _) (Nat.mod_lt _ hp)
  · exact subF_lt (hE _) (Nat.mod_lt _ hp)
theorem map_range_lt {p n : Nat} {f : Nat → Nat} (hp : 0 < p) (h : ∀ j, f j < p) (j : Nat) : gn ((List.range n).map f) j < p := by
  rw [gn_map_range]; split
  · exact h j
  · exact hp
theorem trF_lt {p : Nat} (hp : 0 < p) : ∀ (d : Nat) (c : List Nat) (r : Nat), (∀ j, gn c j < p) → ∀ j, gn (trF p d c r) j < p
  | 0, c, r, h, j => by
    cases j with
    | zero => exact h 0
    | succ j => exact hp
  | d + 1, c, r, h, j => by
    rw [trF]
    refine map_range_lt hp (fun k => bfly_lt hp (fun i => trF_lt hp d _ _ (fun q => ?_) i) k) j
    exact map_range_lt hp (fun _ => h _) q
/-- filled up to i -/
def filN (n : Nat) (f : Nat → Nat) (i : Nat) : List Nat := (List.range n).map fun j => if j < i then f j else 0
theorem filN_length (n : Nat) (f : Nat → Nat) (i : Nat) : (filN n f i).length = n := by simp [filN]
theorem filN_zero (n : Nat) (f : Nat → Nat) : filN n f 0 = List.replicate n 0 := by
  apply gn_ext (by simp [filN])
  intro i hi
  unfold filN
  rw [gn_map_range]
  unfold gn
  rw [List.getElem?_replicate]
  split <;> simp
theorem filN_all (n : Nat) (f : Nat → Nat) : filN n f n = (List.range n).map f := by
  apply gn_ext (by simp [filN])
  intro i hi
  have hi' : i < n := by simpa [filN] using hi
  unfold filN
  rw [gn_map_range, gn_map_range, if_pos hi', if_pos hi']
theorem filN_step {n i : Nat} (f : Nat → Nat) (h : i < n) : (filN n f i).set i (f i) = filN n f (i + 1) := by
  apply gn_ext (by simp [filN])
  intro j hj
  have hj' : j < n := by simpa [filN] using hj
  rw [gn_set _ _ _ _ (by rw [filN_length]; exact h)]
  unfold filN
  rw [gn_map_range, gn_map_range, if_pos hj', if_pos hj']
  by_cases e : j = i
  · subst e; rw [if_pos rfl, if_pos (by omega)]
  · rw [if_neg e]
    by_cases q : j < i
    · rw [if_pos q, if_pos (by omega)]
    · rw [if_neg q, if_neg (by omega)]
/-- both halves filled up to i -/
def filH (h : Nat) (f : Nat → Nat) (i : Nat) : List Nat := (List.range (2 * h)).map fun k => if k < i ∨ (h ≤ k ∧ k < h + i) then f k else 0
theorem filH_length (h : Nat) (f : Nat → Nat) (i : Nat) : (filH h f i).length = 2 * h := by simp [filH]
theorem filH_zero (h : Nat) (f : Nat → Nat) : filH h f 0 = List.replicate (2 * h) 0 := by
  apply gn_ext (by simp [filH])
  intro i hi
  have hi' : i < 2 * h := by simpa [filH] using hi
  unfold filH
  rw [gn_map_range, if_pos hi', if_neg (by omega)]
  unfold gn
  rw [List.getElem?_replicate, if_pos hi']; rfl
theorem filH_all (h : Nat) (f : Nat → Nat) : filH h f h = (List.range (2 * h)).map f := by
  apply gn_ext (by simp [filH])
  intro i hi
  have hi' : i < 2 * h := by simpa [filH] using hi
  unfold filH
  rw [gn_map_range, gn_map_range, if_pos hi', if_pos hi', if_pos (by omega)]
theorem gn_filH_step {h i : Nat} (f : Nat → Nat) (hi : i < h) {k : Nat} (hk : k < 2 * h) : gn (filH h f (i + 1)) k = if k = i ∨ k = i + h then f k else gn (filH h f i) k := by
  unfold filH
  rw [gn_map_range, gn_map_range, if_pos hk, if_pos hk]
  by_cases e : k = i ∨ k = i + h
  · rw [if_pos e, if_pos (by omega)]
  · rw [if_neg e]
    by_cases q : k < i ∨ (h ≤ k ∧ k < h + i)
    · rw [if_pos q, if_pos (by omega)]
    · rw [if_neg q, if_neg (by omega)]

/-- block g (of uint64) may have been written at i and j only, with v1 and v2 -/
def Tw (g i j : Nat) (v1 v2 : Value) (w w' : World) : Prop :=
  Wr [g] w w' ∧ ∀ l, Arr w g 115 l → ∃ l', Arr w' g 115 l' ∧ l'.length = l.length ∧ (∀ k, k ≠ i → k ≠ j → l'[k]? = l[k]?) ∧ (l[i]? = some v1 → l'[i]? = some v1) ∧ (l[j]? = some v2 → l'[j]? = some v2)
section
variable {g i j : Nat} {v1 v2 : Value} {a b c : World}
theorem Tw.trans (h : Tw g i j v1 v2 a b) (k : Tw g i j v1 v2 b c) : Tw g i j v1 v2 a c := by
  refine ⟨h.1.trans k.1, fun l hl => ?_⟩
  obtain ⟨l1, a1, a2, a3, a4, a5⟩ := h.2 l hl
  obtain ⟨l2, b1, b2, b3, b4, b5⟩ := k.2 l1 a1
  exact ⟨l2, b1, b2.trans a2, fun q h1 h2 => (b3 q h1 h2).trans (a3 q h1 h2), fun q => b4 (a4 q), fun q => b5 (a5 q)⟩
theorem Tw.of_below (h : Below a.heap.size a b) : Tw g i j v1 v2 a b := ⟨Wr.of_below h, fun l hl => ⟨l, hl.below h hl.lt, rfl, fun _ _ _ => rfl, fun q => q, fun q => q⟩⟩
theorem Tw.st1 (hij : i ≠ j) : Tw g i j v1 v2 a (a.setCell ⟨g, i, none⟩ v1) := by
  refine ⟨(Wr.refl _ _).setCell (List.mem_singleton.2 rfl) i v1, fun l hl => ⟨l.set i v1, hl.set i v1, by simp, fun k h1 h2 => by rw [List.getElem?_set, if_neg (fun e => h1 e.symm)], fun q => ?_, fun q => by rw [List.getElem?_set, if_neg hij]; exact q⟩⟩
  have := (List.getElem?_eq_some_iff.1 q).1
  simp [this]
theorem Tw.st2 (hij : i ≠ j) : Tw g i j v1 v2 a (a.setCell ⟨g, j, none⟩ v2) := by
  refine ⟨(Wr.refl _ _).setCell (List.mem_singleton.2 rfl) j v2, fun l hl => ⟨l.set j v2, hl.set j v2, by simp, fun k h1 h2 => by rw [List.getElem?_set, if_neg (fun e => h2 e.symm)], fun q => by rw [List.getElem?_set, if_neg (fun e => hij e.symm)]; exact q, fun q => ?_⟩⟩
  have := (List.getElem?_eq_some_iff.1 q).1
  simp [this]
/-- cell i of block g holds v -/
def At_ (g i : Nat) (v : Value) (w : World) : Prop := ∃ l, Arr w g 115 l ∧ l[i]? = some v
theorem At_.tw1 (h : At_ g i v1 a) (t : Tw g i j v1 v2 a b) : At_ g i v1 b := by
  obtain ⟨l, h1, h2⟩ := h
  obtain ⟨l', a1, _, _, a4, _⟩ := t.2 l h1
  exact ⟨l', a1, a4 h2⟩
theorem At_.tw2 (h : At_ g j v2 a) (t : Tw g i j v1 v2 a b) : At_ g j v2 b := by
  obtain ⟨l, h1, h2⟩ := h
  obtain ⟨l', a1, _, _, _, a5⟩ := t.2 l h1
  exact ⟨l', a1, a5 h2⟩
theorem At_.new {l : List Value} (h : Arr a g 115 l) (hi : i < l.length) (v : Value) : At_ g i v (a.setCell ⟨g, i, none⟩ v) := ⟨l.set i v, h.set i v, by simp [hi]⟩
theorem Tw.new {l : List Value} {k : Nat} (t : Tw g i j v1 v2 a b) (h : Arr a g 115 l) (hk : k < l.length) (v : Value) : At_ g k v (b.setCell ⟨g, k, none⟩ v) := by
  obtain ⟨l', h1, h2, _⟩ := t.2 l h
  exact At_.new h1 (by omega) v
theorem Tw.cellw {l : List Value} {k : Nat} (t : Tw g i j v1 v2 a b) (h : Arr a g 115 l) (hk : k < l.length) : ∃ v, b.cell? ⟨g, k, none⟩ = some v ∧ b.frozen? ⟨g, k, none⟩ = false := by
  obtain ⟨l', h1, h2, _⟩ := t.2 l h
  exact ⟨l'[k]'(by omega), by rw [h1.cell, List.getElem?_eq_getElem], h1.frozen k⟩
theorem Arr.same {l l' : List Value} {g : Nat} {t : TypeId} (h : Arr a g t l) (h' : Arr a g t l') : l = l' := by
  apply List.ext_getElem?
  intro k
  rw [← h.cell k, ← h'.cell k]
theorem Tw.end_ {h : Nat} {f : Nat → Nat} (hi : i < h) (t : Tw g i (i + h) (.int .u64 (f i : Nat)) (.int .u64 (f (i + h) : Nat)) a b) (ha : Arr a g 115 (uc (filH h f i))) (h1 : At_ g i (.int .u64 (f i : Nat)) b) (h2 : At_ g (i + h) (.int .u64 (f (i + h) : Nat)) b) : Arr b g 115 (uc (filH h f (i + 1))) := by
  obtain ⟨l, e1, e2, e3, _, _⟩ := t.2 _ ha
  obtain ⟨l1, f1, f2⟩ := h1
  obtain ⟨l2, g1, g2⟩ := h2
  have q1 := e1.same f1
  have q2 := e1.same g1
  rw [← q1] at f2
  rw [← q2] at g2
  have hl : l = uc (filH h f (i + 1)) := by
    apply List.ext_getElem?
    intro k
    rcases Nat.lt_or_ge k (2 * h) with hk | hk
    · rw [uc_get (by rw [filH_length]; exact hk), gn_filH_step f hi hk]
      by_cases e : k = i
      · subst e; rw [if_pos (.inl rfl)]; exact f2
      · by_cases e' : k = i + h
        · subst e'; rw [if_pos (.inr rfl)]; exact g2
        · rw [if_neg (by omega), e3 k e e', uc_get (by rw [filH_length]; exact hk)]
    · rw [List.getElem?_eq_none (by rw [e2, uc_length, filH_length]; exact hk), List.getElem?_eq_none (by rw [uc_length, filH_length]; exact hk)]
  rw [← hl]; exact e1
end
end Go.Proofs.YtbkgpfalljgdcaaGreatDoor

namespace Go.Proofs.YtbkgpfalljgdcaaGreatDoor
open Go.RowKit
set_option linter.unusedVariables false
theorem end_look {Q : Exit → Act → World → Prop} {ds : List (Option Tmp)} {x : Nat → Value} {a : Act} {w : World} (t k : Nat) {v : Value} (hd : apartD ds = true) (hn : inD a.tmps.size ds = true) (hk : ds.idxOf? (some t) = some k) (hv : x k = v)
    (h : ∀ T : Array Value, T[t]?.getD undef = v → Q .normal ⟨T, a.defers⟩ w) : Q .normal (putAll ds 0 x a) w := by
  have h1 := putAll_look ds 0 x a t hd hn
  rw [hk] at h1
  simp only [Nat.zero_add, Array.getD_eq_getD_getElem?] at h1
  have h2 : ∀ (ds : List (Option Tmp)) (i : Nat) (a : Act), (putAll ds i x a).defers = a.defers := by
    intro ds
    induction ds with
    | nil => intro i a; rfl
    | cons d ds ih => intro i a; rw [putAll, ih]; cases d <;> rfl
  have h3 := h2 ds 0 a
  revert h1 h3
  generalize putAll ds 0 x a = b
  intro h1 h3
  obtain ⟨T, D⟩ := b
  simp only at h1 h3
  subst h3
  exact h T (h1.trans hv)
end Go.Proofs.YtbkgpfalljgdcaaGreatDoor
