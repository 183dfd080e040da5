/- The components of the graph, by a search in breadth: plain. -/
/- A queue of integers: a slice of the call's own that is cut at its head and appended to. -/
import Derived.Test.YtlbihllmpbhhcaaDoorZStr
import Derived.Test.YtlbihllmpbhhcaaDoorZFce
import Derived.Deep.AppendSrc
namespace Go.Proofs.YtlbihllmpbhhcaaDoor
set_option linter.unusedVariables false

def gi (l : List Int) (k : Nat) : Int := l[k]?.getD 0
theorem gi_set (l : List Int) (a : Nat) (x : Int) (c : Nat) (ha : a < l.length) : gi (l.set a x) c = if c = a then x else gi l c := by
  unfold gi
  rw [List.getElem?_set]
  by_cases h : a = c
  · subst h; simp [ha]
  · have h' : ¬ c = a := fun e => h e.symm
    simp [h, h']
/-- how many are not labelled -/
def unl (l : List Int) : Nat := l.countP fun x => decide (x < 0)
theorem unl_set : ∀ (l : List Int) (k : Nat) (x : Int), k < l.length → gi l k < 0 → 0 ≤ x → unl (l.set k x) + 1 = unl l
  | [], k, x, h, _, _ => by simp at h
  | y :: l, 0, x, _, h1, h2 => by
    have h3 : y < 0 := h1
    have h4 : ¬ x < 0 := by omega
    simp [unl, h3, h4]
  | y :: l, k + 1, x, h, h1, h2 => by
    have := unl_set l k x (by simpa using h) h1 h2
    unfold unl at this ⊢
    rw [List.set_cons_succ, List.countP_cons, List.countP_cons]
    omega
theorem unl_le (l : List Int) : unl l ≤ l.length := List.countP_le_length

/-- between two searches: p components are labelled, and all crossings before c -/
structure PartO (M : List Int) (n : Nat) (pl : List Int) (p c : Nat) : Prop where
  len : pl.length = n
  rng : ∀ b, b < n → gi pl b = -1 ∨ (0 ≤ gi pl b ∧ gi pl b < (p : Int))
  clo : ∀ a b, Ed M a b → 0 ≤ gi pl a → gi pl b = gi pl a
  root : ∀ q, q < p → ∃ r, r < n ∧ gi pl r = (q : Int) ∧ ∀ b, b < n → gi pl b = (q : Int) → Conn (Ed M) r b
  low : ∀ b, b < c → 0 ≤ gi pl b
/-- during the search from c -/
structure BF (M : List Int) (n : Nat) (pl : List Int) (p c : Nat) : Prop where
  len : pl.length = n
  cn : c < n
  rng : ∀ b, b < n → gi pl b = -1 ∨ (0 ≤ gi pl b ∧ gi pl b ≤ (p : Int))
  old : ∀ a b, Ed M a b → 0 ≤ gi pl a → gi pl a < (p : Int) → gi pl b = gi pl a
  root : ∀ q, q < p → ∃ r, r < n ∧ gi pl r = (q : Int) ∧ ∀ b, b < n → gi pl b = (q : Int) → Conn (Ed M) r b
  conn : ∀ b, b < n → gi pl b = (p : Int) → Conn (Ed M) c b
  cc : gi pl c = (p : Int)
  low : ∀ b, b < c → 0 ≤ gi pl b
def Qu (n : Nat) (pl : List Int) (p : Nat) (q : List Nat) : Prop := ∀ x, x ∈ q → x < n ∧ gi pl x = (p : Int)
def Wh (M : List Int) (n : Nat) (pl : List Int) (p : Nat) (q : List Nat) : Prop := Qu n pl p q ∧ ∀ a, a < n → gi pl a = (p : Int) → a ∈ q ∨ ∀ b, Ed M a b → gi pl b = (p : Int)
def Fo (M : List Int) (n : Nat) (pl : List Int) (p : Nat) (q : List Nat) (at' s : Nat) : Prop :=
  Qu n pl p q ∧ at' < n ∧ gi pl at' = (p : Int) ∧ (∀ t, t < s → gi pl (mt M (4 * at' + t) / 4) = (p : Int)) ∧ ∀ a, a < n → gi pl a = (p : Int) → a ∈ q ∨ a = at' ∨ ∀ b, Ed M a b → gi pl b = (p : Int)

section
variable {S M : List Int} {L : Int} (k : Ok S M L) {pl : List Int} {p c : Nat}
include k
theorem ed_at {a t : Nat} (ha : a < S.length) (ht : t < 4) : Ed M a (mt M (4 * a + t) / 4) := ⟨4 * a + t, by rw [k.m]; omega, Or.inl ⟨by omega, rfl⟩⟩
theorem ed_of {a b : Nat} (h : Ed M a b) : ∃ t, t < 4 ∧ b = mt M (4 * a + t) / 4 := by
  obtain ⟨h, hh, ⟨e1, e2⟩ | ⟨e1, e2⟩⟩ := h
  · refine ⟨h % 4, Nat.mod_lt _ (by omega), ?_⟩
    have : 4 * a + h % 4 = h := by omega
    rw [this]; exact e2
  · have hl := k.lt h hh
    have hi := k.inv h hh
    refine ⟨mt M h % 4, Nat.mod_lt _ (by omega), ?_⟩
    have : 4 * a + mt M h % 4 = mt M h := by omega
    rw [this, hi]; exact e1
omit k in
theorem bf_start (h : PartO M S.length pl p c) (hc : c < S.length) (hn : gi pl c < 0) : BF M S.length (pl.set c p) p c ∧ Wh M S.length (pl.set c p) p [c] := by
  have hg := fun x => gi_set pl c (p : Int) x (by rw [h.len]; exact hc)
  have hcm : gi pl c = -1 := by rcases h.rng c hc with q | q <;> omega
  refine ⟨⟨by rw [List.length_set]; exact h.len, hc, ?_, ?_, ?_, ?_, ?_, ?_⟩, ?_, ?_⟩
  · intro b hb
    rw [hg]
    split
    · right; omega
    · rcases h.rng b hb with q | q
      · left; exact q
      · right; omega
  · intro a b hab h0 h1
    rw [hg] at h0 h1 ⊢
    by_cases ea : a = c
    · rw [if_pos ea] at h1; omega
    · rw [if_neg ea] at h0 h1
      have := h.clo a b hab h0
      by_cases eb : b = c
      · subst eb; omega
      · rw [if_neg eb, hg, if_neg ea]; exact this
  · intro q hq
    obtain ⟨r, hr, h1, h2⟩ := h.root q hq
    have hne : r ≠ c := by intro e; subst e; omega
    refine ⟨r, hr, by rw [hg, if_neg hne]; exact h1, ?_⟩
    intro b hb h3
    rw [hg] at h3
    by_cases eb : b = c
    · rw [if_pos eb] at h3; omega
    · rw [if_neg eb] at h3; exact h2 b hb h3
  · intro b hb h3
    rw [hg] at h3
    by_cases eb : b = c
    · subst eb; exact .refl _
    · rw [if_neg eb] at h3
      rcases h.rng b hb with q | q <;> omega
  · rw [hg, if_pos rfl]
  · intro b hb
    rw [hg]
    split
    · omega
    · exact h.low b hb
  · intro x hx
    simp at hx
    subst hx
    exact ⟨hc, by rw [hg, if_pos rfl]⟩
  · intro a ha h3
    left
    rw [hg] at h3
    by_cases ea : a = c
    · simp [ea]
    · rw [if_neg ea] at h3
      rcases h.rng a ha with q | q <;> omega
omit k in
theorem wh_pop {q : List Nat} {a : Nat} {n : Nat} (h : Wh M n pl p (a :: q)) : Fo M n pl p q a 0 := by
  refine ⟨fun x hx => h.1 x (List.mem_cons_of_mem _ hx), (h.1 a (by simp)).1, (h.1 a (by simp)).2, fun t ht => by omega, fun b hb h3 => ?_⟩
  rcases h.2 b hb h3 with h4 | h4
  · rcases List.mem_cons.1 h4 with h5 | h5
    · exact Or.inr (Or.inl h5)
    · exact Or.inl h5
  · exact Or.inr (Or.inr h4)
theorem fo_old {q : List Nat} {a s : Nat} (hb : BF M S.length pl p c) (h : Fo M S.length pl p q a s) (hs : s < 4) (h0 : 0 ≤ gi pl (mt M (4 * a + s) / 4)) : Fo M S.length pl p q a (s + 1) := by
  refine ⟨h.1, h.2.1, h.2.2.1, fun t ht => ?_, h.2.2.2.2⟩
  rcases Nat.lt_or_ge t s with ht2 | ht2
  · exact h.2.2.2.1 t ht2
  · have : t = s := by omega
    subst this
    have he := ed_at k h.2.1 hs
    have hl := (he.lt k.rg).2
    rcases hb.rng _ hl with h1 | ⟨h1, h2⟩
    · omega
    · rcases Int.lt_or_eq_of_le h2 with h3 | h3
      · have := hb.old _ _ he.symm h1 h3
        have h4 := h.2.2.1
        omega
      · exact h3
theorem fo_new {q : List Nat} {a s : Nat} (hb : BF M S.length pl p c) (h : Fo M S.length pl p q a s) (hs : s < 4) (h0 : gi pl (mt M (4 * a + s) / 4) < 0) :
    BF M S.length (pl.set (mt M (4 * a + s) / 4) p) p c ∧ Fo M S.length (pl.set (mt M (4 * a + s) / 4) p) p (q ++ [mt M (4 * a + s) / 4]) a (s + 1) := by
  have he := ed_at k h.2.1 hs
  have hl := (he.lt k.rg).2
  generalize hy : mt M (4 * a + s) / 4 = y at *
  have hg := fun x => gi_set pl y (p : Int) x (by rw [hb.len]; exact hl)
  have keep : ∀ x, x < S.length → gi pl x = (p : Int) → gi (pl.set y p) x = (p : Int) := by
    intro x _ hx2
    rw [hg]; split
    · rfl
    · exact hx2
  have keep0 : ∀ x, gi pl x = (p : Int) → gi (pl.set y p) x = (p : Int) := by
    intro x hx2
    rw [hg]; split
    · rfl
    · exact hx2
  have hcy : Conn (Ed M) c y := (hb.conn a h.2.1 h.2.2.1).step he
  refine ⟨⟨by rw [List.length_set]; exact hb.len, hb.cn, ?_, ?_, ?_, ?_, ?_, ?_⟩, ?_, h.2.1, keep a h.2.1 h.2.2.1, ?_, ?_⟩
  · intro b hbn
    rw [hg]
    split
    · right; omega
    · exact hb.rng b hbn
  · intro u v huv h1 h2
    rw [hg] at h1 h2 ⊢
    by_cases eu : u = y
    · rw [if_pos eu] at h2; omega
    · rw [if_neg eu] at h1 h2
      have := hb.old u v huv h1 h2
      by_cases ev : v = y
      · subst ev; omega
      · rw [if_neg ev, hg, if_neg eu]; exact this
  · intro r hr
    obtain ⟨x, hx, h1, h2⟩ := hb.root r hr
    have hne : x ≠ y := by intro e; subst e; omega
    refine ⟨x, hx, by rw [hg, if_neg hne]; exact h1, ?_⟩
    intro b hbn h3
    rw [hg] at h3
    by_cases eb : b = y
    · rw [if_pos eb] at h3; omega
    · rw [if_neg eb] at h3; exact h2 b hbn h3
  · intro b hbn h3
    rw [hg] at h3
    by_cases eb : b = y
    · subst eb; exact hcy
    · rw [if_neg eb] at h3; exact hb.conn b hbn h3
  · exact keep0 c hb.cc
  · intro b hbn
    rw [hg]
    split
    · omega
    · exact hb.low b hbn
  · intro x hx
    rcases List.mem_append.1 hx with h1 | h1
    · exact ⟨(h.1 x h1).1, keep0 x (h.1 x h1).2⟩
    · simp at h1
      subst h1
      exact ⟨hl, by rw [hg, if_pos rfl]⟩
  · intro t ht
    rcases Nat.lt_or_ge t s with ht2 | ht2
    · exact keep0 _ (h.2.2.2.1 t ht2)
    · have : t = s := by omega
      subst this
      rw [hy, hg, if_pos rfl]
  · intro b hbn h3
    rw [hg] at h3
    by_cases eb : b = y
    · left; simp [eb]
    · rw [if_neg eb] at h3
      rcases h.2.2.2.2 b hbn h3 with h4 | h4 | h4
      · left; simp [h4]
      · right; left; exact h4
      · right; right
        intro v hv
        exact keep0 v (h4 v hv)
theorem fo_end {q : List Nat} {a : Nat} (h : Fo M S.length pl p q a 4) : Wh M S.length pl p q := by
  refine ⟨h.1, fun b hb h3 => ?_⟩
  rcases h.2.2.2.2 b hb h3 with h4 | h4 | h4
  · exact Or.inl h4
  · right
    subst h4
    intro v hv
    obtain ⟨t, ht, e⟩ := ed_of k hv
    rw [e]; exact h.2.2.2.1 t ht
  · exact Or.inr h4
theorem wh_end (hb : BF M S.length pl p c) (h : Wh M S.length pl p []) : PartO M S.length pl (p + 1) (c + 1) := by
  refine ⟨hb.len, ?_, ?_, ?_, ?_⟩
  · intro b hbn
    rcases hb.rng b hbn with q | q
    · exact Or.inl q
    · right; omega
  · intro a b hab h0
    have hl := hab.lt k.rg
    rcases hb.rng a hl.1 with q | ⟨q1, q2⟩
    · omega
    · rcases Int.lt_or_eq_of_le q2 with q3 | q3
      · exact hb.old a b hab h0 q3
      · rcases h.2 a hl.1 q3 with h4 | h4
        · simp at h4
        · rw [h4 b hab, q3]
  · intro q hq
    rcases Nat.lt_or_ge q p with hq2 | hq2
    · exact hb.root q hq2
    · have : q = p := by omega
      subst this
      exact ⟨c, hb.cn, hb.cc, hb.conn⟩
  · intro b hbc
    rcases Nat.lt_or_ge b c with h1 | h1
    · exact hb.low b h1
    · have : b = c := by omega
      subst this
      rw [hb.cc]; omega
end
end Go.Proofs.YtlbihllmpbhhcaaDoor

namespace Go.Proofs.YtlbihllmpbhhcaaDoor
set_option linter.unusedVariables false
open Go.RowKit

/-- v is a part of a block of the call's own, from block base on, that reads as the integers xs -/
def QI (e : TypeId) (base : Nat) (w : World) (v : Value) (xs : List Int) : Prop :=
  ∃ g o c cur, v = .slice (some ⟨g, o, none⟩) xs.length c ∧ base ≤ g ∧ w.heap[g]? = some (.cells cur e (0, 0)) ∧ xs.length ≤ c ∧ o + c ≤ cur.size ∧ ∀ k x, xs[k]? = some x → cur[o + k]? = some (.int .i64 x)

section
variable {e : TypeId} {base : Nat} {w w' : World} {v : Value} {xs : List Int}
theorem QI.one (w : World) (e : TypeId) (base : Nat) (hb : base ≤ w.heap.size) (x : Int) : QI e base (w.alloc (.cells #[.int .i64 x] e)) (.slice (some ⟨w.heap.size, 0, none⟩) 1 1) [x] := by
  refine ⟨w.heap.size, 0, 1, #[.int .i64 x], rfl, hb, heap_alloc_new w _, Nat.le_refl _, Nat.le_refl _, ?_⟩
  intro k y hk
  have hk0 : k = 0 := by have := (List.getElem?_eq_some_iff.1 hk).1; simp at this; exact this
  subst hk0
  simp at hk; subst hk; rfl
theorem QI.lt {g o n c : Nat} (h : QI e base w (.slice (some ⟨g, o, none⟩) n c) xs) : base ≤ g ∧ g < w.heap.size := by
  obtain ⟨g', o', c', cur, hv, hb, hg, _⟩ := h
  injection hv with h1 h2 h3
  injection h1 with h1
  injection h1 with h1
  subst h1
  refine ⟨hb, ?_⟩
  rcases Nat.lt_or_ge g w.heap.size with hlt | hge
  · exact hlt
  · rw [Array.getElem?_eq_none hge] at hg; cases hg
theorem QI.keep (h : QI e base w v xs) (hk : ∀ g o n c, v = .slice (some ⟨g, o, none⟩) n c → w'.heap[g]? = w.heap[g]?) : QI e base w' v xs := by
  obtain ⟨g, o, c, cur, hv, hb, hg, r⟩ := h
  exact ⟨g, o, c, cur, hv, hb, (hk g o _ c hv).trans hg, r⟩
theorem QI.alloc (h : QI e base w v xs) (ob : Obj) : QI e base (w.alloc ob) v xs := by
  obtain ⟨g, o, c, cur, hv, hb, hg, r⟩ := h
  refine ⟨g, o, c, cur, hv, hb, ?_, r⟩
  have hlt : g < w.heap.size := by
    rcases Nat.lt_or_ge g w.heap.size with hlt | hge
    · exact hlt
    · rw [Array.getElem?_eq_none hge] at hg; cases hg
  rw [Below.heap_alloc w ob g hlt]; exact hg
theorem QI.head {x : Int} (h : QI e base w v (x :: xs)) : ∃ g o c, v = .slice (some ⟨g, o, none⟩) (xs.length + 1) c ∧ xs.length + 1 ≤ c ∧ w.cell? ⟨g, o, none⟩ = some (.int .i64 x) := by
  obtain ⟨g, o, c, cur, hv, hb, hg, hc, hs, hx⟩ := h
  refine ⟨g, o, c, hv, hc, ?_⟩
  rw [cell_of_row w g o cur e (0, 0) hg]
  exact hx 0 x rfl
theorem QI.tail {x : Int} {g o n c : Nat} (h : QI e base w (.slice (some ⟨g, o, none⟩) n c) (x :: xs)) (A : Option Addr) (hA : A = some ⟨g, o, none⟩ ∧ c - 1 = 0 ∨ A = some ⟨g, o + 1, none⟩) : QI e base w (.slice A (n - 1) (c - 1)) xs := by
  obtain ⟨g', o', c', cur, hv, hb, hg, hc, hs, hx⟩ := h
  injection hv with h1 h2 h3
  injection h1 with h1
  injection h1 with h1 h4
  subst h1 h2 h3 h4
  simp only [List.length_cons] at hc ⊢
  rcases hA with ⟨rfl, hA⟩ | rfl
  · refine ⟨g, o, c - 1, cur, by simp, hb, hg, by omega, by omega, fun k y hk => ?_⟩
    have := (List.getElem?_eq_some_iff.1 hk).1; omega
  · refine ⟨g, o + 1, c - 1, cur, by simp, hb, hg, by omega, by omega, fun k y hk => ?_⟩
    have := hx (k + 1) y (by simpa using hk)
    rw [Nat.add_assoc, Nat.add_comm 1 k]; exact this

/-- the run of append(v, x) -/
theorem run_appQ {P : Program} {t ty : TypeId} {i : TypeInfo} (ht : P.underlying t = some (.slice e)) (hi : P.info? e = some i) (hz : i.zero = some (.int .i64 0)) (hs : i.size = 1) (hby : i.bytes = 8)
    (h : QI e base w v xs) {b : Nat} {x : Int} (hu : w.cell? ⟨b, 0, none⟩ = some (.int .i64 x)) (hlen : xs.length ≤ 1000000) (hbase : base ≤ w.heap.size) :
    ∃ v' w', (Builtin.append_ #[t, t] ty #[v, .slice (some ⟨b, 0, none⟩) 1 1]).run P w = .ok v' w' ∧ QI e base w' v' (xs ++ [x]) ∧ Below base w w' ∧
      (∀ k, k < w.heap.size → (∀ g o n c, v = .slice (some ⟨g, o, none⟩) n c → g ≠ k) → w'.heap[k]? = w.heap[k]?) ∧ w.heap.size ≤ w'.heap.size ∧
      (∀ g o n c, v' = .slice (some ⟨g, o, none⟩) n c → (∃ o n c, v = .slice (some ⟨g, o, none⟩) n c) ∨ w.heap.size ≤ g) := by
  obtain ⟨g, o, c, cur, rfl, hb, hg, hc, hsz, hx⟩ := h
  have hcells : ∀ j u, [Value.int .i64 x][j]? = some u → w.cell? ((⟨b, 0, none⟩ : Addr).add j) = some u := by
    intro j u hj
    have hj0 : j = 0 := by have := (List.getElem?_eq_some_iff.1 hj).1; simp at this; exact this
    subst hj0
    simp at hj; subst hj
    have : (⟨b, 0, none⟩ : Addr).add 0 = ⟨b, 0, none⟩ := by unfold Addr.add; split <;> simp_all
    rw [this]; exact hu
  have hlt : g < w.heap.size := by
    rcases Nat.lt_or_ge g w.heap.size with hlt | hge
    · exact hlt
    · rw [Array.getElem?_eq_none hge] at hg; cases hg
  have src : Src P i.size t (.slice (some ⟨b, 0, none⟩) 1 1) 1 [Value.int .i64 x] w := Src.ofSlice w ht _ 1 1 _ (by rw [hs]; rfl) hcells (by intro u hu; simp at hu; subst hu; rfl)
  by_cases hroom : xs.length + 1 ≤ c
  · have hin : o + xs.length < cur.size := by omega
    have hcell : w.cell? ⟨g, o + xs.length, none⟩ = some cur[o + xs.length] := by
      rw [cell_of_row w g _ cur e (0, 0) hg, Array.getElem?_eq_getElem hin]
    have hfr : w.frozen? ⟨g, o + xs.length, none⟩ = false := frozen_of_row w g _ cur e hg
    have hr := run_append_room_src (P := P) w t t ty e i ht hi g o xs.length c (.slice (some ⟨b, 0, none⟩) 1 1) 1 [Value.int .i64 x] src hroom
      (by intro j hj; simp at hj; subst hj; rw [hs, Nat.mul_one, Nat.add_zero, hcell]; rfl) (by intro j hj; simp at hj; subst hj; rw [hs, Nat.mul_one, Nat.add_zero]; exact hfr)
    rw [hs, Nat.mul_one] at hr
    have hset : w.setCells g (o + xs.length) [Value.int .i64 x] = w.setCell ⟨g, o + xs.length, none⟩ (.int .i64 x) := rfl
    rw [hset] at hr
    refine ⟨_, _, hr, ⟨g, o, c, cur.setIfInBounds (o + xs.length) (.int .i64 x), by simp, hb, ?_, by simp; omega, by simpa using hsz, ?_⟩, (Below.refl _ _).setCell (p := ⟨g, o + xs.length, none⟩) hb _, ?_, ?_, ?_⟩
    · rw [heap_setCell_same w g _ cur e _ hg]
    · intro k y hk
      rcases Nat.lt_or_ge k xs.length with hk1 | hk1
      · rw [List.getElem?_append_left hk1] at hk
        have := hx k y hk
        rw [Array.getElem?_setIfInBounds, if_neg (by omega)]; exact this
      · rw [List.getElem?_append_right hk1] at hk
        have hk0 : k - xs.length = 0 := by have := (List.getElem?_eq_some_iff.1 hk).1; simp at this; omega
        rw [hk0] at hk
        simp at hk; subst hk
        have : k = xs.length := by omega
        subst this
        rw [Array.getElem?_setIfInBounds, if_pos rfl]
        simp [hin]
    · intro k hk hne
      exact Below.heap_setCell w ⟨g, o + xs.length, none⟩ _ k (fun e => hne g o _ c rfl e.symm)
    · exact ((Below.refl base w).setCell (p := ⟨g, o + xs.length, none⟩) hb (.int .i64 x)).size
    · intro g' o' n' c' hv
      injection hv with h1
      injection h1 with h1
      injection h1 with h1
      subst h1
      exact Or.inl ⟨_, _, _, rfl⟩
  · have hold : ∀ j u, (xs.map (Value.int .i64))[j]? = some u → w.cell? ((⟨g, o, none⟩ : Addr).add j) = some u := by
      intro j u hj
      rw [List.getElem?_map] at hj
      cases hy : xs[j]? with
      | none => rw [hy] at hj; cases hj
      | some y =>
        rw [hy] at hj
        injection hj with hj
        have : (⟨g, o, none⟩ : Addr).add j = ⟨g, o + j, none⟩ := by unfold Addr.add; split <;> simp_all
        rw [this, ← hj, cell_of_row w g _ cur e (0, 0) hg]
        exact hx j y hy
    have hncap : Builtin.nextslicecap (xs.length + 1) c * i.bytes ≤ 281474976710656 := by
      have := nextslicecap_le (need := xs.length + 1) (old := c) (by omega)
      rw [hby]; omega
    have hr := run_append_grow (P := P) w t ty e i (.int .i64 0) ht hi hz ⟨g, o, none⟩ xs.length c (xs.map (Value.int .i64)) (by rw [hs]; simp) hold ⟨b, 0, none⟩ 1 1 [Value.int .i64 x] (by rw [hs]; rfl) hcells (by omega) (by omega) hncap
    have hge : xs.length + 1 ≤ grownCap w (xs.length + 1) c e := grownCap_ge w _ _ _
    refine ⟨_, _, hr, ⟨w.heap.size, 0, _, _, by simp; rfl, hbase, heap_alloc_new w.drew _, by simp; exact hge, ?_, ?_⟩, Below.alloc (a := w) (w := w.drew) (bdrewN (Below.refl _ _) 1) hbase _, ?_, ?_, ?_⟩
    · rw [Array.size_append, size_zeroCells]
      have : (Value.int .i64 0).cells.size = 1 := rfl
      rw [this]; simp; omega
    · intro k y hk
      have hk2 : k < xs.length + 1 := by have := (List.getElem?_eq_some_iff.1 hk).1; simpa using this
      rw [Nat.zero_add, Array.getElem?_append_left (by simp; omega)]
      have h3 : ((xs ++ [x]).map (Value.int .i64))[k]? = some (.int .i64 y) := by rw [List.getElem?_map, hk]; rfl
      rw [List.map_append] at h3
      simpa using h3
    · intro k hk hne
      exact Below.heap_alloc w.drew _ k hk
    · exact Nat.le_trans (Nat.le_succ _) (by simp [World.alloc])
    · intro g' o' n' c' hv
      injection hv with h1
      injection h1 with h1
      injection h1 with h1
      subst h1
      exact Or.inr (Nat.le_refl _)
end

section
variable {P : Program} {w : World} {e : TypeId} {base : Nat} {v : Value} {xs : List Int}
theorem wp_appQ {o : Oper} {a : Act} {K : Act → World → Prop} {Q : Exit → Act → World → Prop} (s x : Operand) (t : TypeId) (ho : o.op = .call { callee := .builtin .append, args := #[s, x], argTypes := #[t, t] })
    {i : TypeInfo} (ht : P.underlying t = some (.slice e)) (hi : P.info? e = some i) (hz : i.zero = some (.int .i64 0)) (hs : i.size = 1) (hby : i.bytes = 8)
    (hv : a.eval s = v) (h : QI e base w v xs) {b : Nat} {y : Int} (hx : a.eval x = .slice (some ⟨b, 0, none⟩) 1 1) (hu : w.cell? ⟨b, 0, none⟩ = some (.int .i64 y)) (hlen : xs.length ≤ 1000000) (hbase : base ≤ w.heap.size)
    (hK : ∀ v' w', QI e base w' v' (xs ++ [y]) → Below base w w' → (∀ k, k < w.heap.size → (∀ g o n c, v = .slice (some ⟨g, o, none⟩) n c → g ≠ k) → w'.heap[k]? = w.heap[k]?) → w.heap.size ≤ w'.heap.size →
      (∀ g o n c, v' = .slice (some ⟨g, o, none⟩) n c → (∃ o n c, v = .slice (some ⟨g, o, none⟩) n c) ∨ w.heap.size ≤ g) → K (a.put o.dst v') w') : o.wp P a w K Q := by
  obtain ⟨v', w', hrun, h1, h2, h3, h4, h5⟩ := run_appQ (P := P) (ty := o.type) ht hi hz hs hby h hu hlen hbase
  unfold Oper.wp execOp
  simp only [ho, resolve, invoke, builtin, Sem.run_bind, Sem.run_pure, Result.andThen_ok, List.map_toArray, List.map_cons, List.map_nil, hv, hx, hrun]
  exact hK v' w' h1 h2 h3 h4 h5
/-- in a plain region, behind 'at_builtin' -/
theorem wpList_appQ {ops : Array Oper} {rest : List Oper} {o : Oper} {a : Act} {Q : Exit → Act → World → Prop} (hgd : o.guard = none) (s x : Operand) (t : TypeId) (ho : o.op = .call { callee := .builtin .append, args := #[s, x], argTypes := #[t, t] })
    {i : TypeInfo} (ht : P.underlying t = some (.slice e)) (hi : P.info? e = some i) (hz : i.zero = some (.int .i64 0)) (hs : i.size = 1) (hby : i.bytes = 8)
    (hv : a.eval s = v) (h : QI e base w v xs) {b : Nat} {y : Int} (hx : a.eval x = .slice (some ⟨b, 0, none⟩) 1 1) (hu : w.cell? ⟨b, 0, none⟩ = some (.int .i64 y)) (hlen : xs.length ≤ 1000000) (hbase : base ≤ w.heap.size)
    (hK : ∀ v' w', QI e base w' v' (xs ++ [y]) → Below base w w' → (∀ k, k < w.heap.size → (∀ g o n c, v = .slice (some ⟨g, o, none⟩) n c → g ≠ k) → w'.heap[k]? = w.heap[k]?) → w.heap.size ≤ w'.heap.size →
      (∀ g o n c, v' = .slice (some ⟨g, o, none⟩) n c → (∃ o n c, v = .slice (some ⟨g, o, none⟩) n c) ∨ w.heap.size ≤ g) → wpList P ops Q rest (a.put o.dst v') w') : wpList P ops Q (o :: rest) a w :=
  wpList_plain hgd fun _ hk => wp_appQ s x t ho ht hi hz hs hby hv h hx hu hlen hbase fun v' w' h1 h2 h3 h4 h5 => hk _ _ (hK v' w' h1 h2 h3 h4 h5)
end
end Go.Proofs.YtlbihllmpbhhcaaDoor
