/- The components of the graph, by a search in breadth: plain. -/
import Derived.Test.YtcjaloddgilnpaaZVap
namespace Go.Proofs.Ytcjaloddgilnpaa
set_option linter.unusedVariables false

def gi (l : List Int) (k : Nat) : Int := l[k]?.getD 0
theorem gi_set (l : List Int) (a : Nat) (x : Int) (c : Nat) (ha : a < l.length) : gi (l.set a x) c = if c = a then x else gi l c := by
  unfold gi
  rw [List.getElem?_set]
  by_cases h : a = c
  · subst h; simp [ha]
  · have h' : ¬ c = a := fun e => h e.symm
    simp [h, h']
/-- how many are not labelled -/
def unl (l : List Int) : Nat := l.countP fun x => decide (x < 0)
theorem unl_set : ∀ (l : List Int) (k : Nat) (x : Int), k < l.length → gi l k < 0 → 0 ≤ x → unl (l.set k x) + 1 = unl l
  | [], k, x, h, _, _ => by simp at h
  | y :: l, 0, x, _, h1, h2 => by
    have h3 : y < 0 := h1
    have h4 : ¬ x < 0 := by omega
    simp [unl, h3, h4]
  | y :: l, k + 1, x, h, h1, h2 => by
    have := unl_set l k x (by simpa using h) h1 h2
    unfold unl at this ⊢
    rw [List.set_cons_succ, List.countP_cons, List.countP_cons]
    omega
theorem unl_le (l : List Int) : unl l ≤ l.length := List.countP_le_length

/-- between two searches: p components are labelled, and all crossings before c -/
structure PartO (M : List Int) (n : Nat) (pl : List Int) (p c : Nat) : Prop where
  len : pl.length = n
  rng : ∀ b, b < n → gi pl b = -1 ∨ (0 ≤ gi pl b ∧ gi pl b < (p : Int))
  clo : ∀ a b, Ed M a b → 0 ≤ gi pl a → gi pl b = gi pl a
  root : ∀ q, q < p → ∃ r, r < n ∧ gi pl r = (q : Int) ∧ ∀ b, b < n → gi pl b = (q : Int) → Conn (Ed M) r b
  low : ∀ b, b < c → 0 ≤ gi pl b
/-- during the search from c -/
structure BF (M : List Int) (n : Nat) (pl : List Int) (p c : Nat) : Prop where
  len : pl.length = n
  cn : c < n
  rng : ∀ b, b < n → gi pl b = -1 ∨ (0 ≤ gi pl b ∧ gi pl b ≤ (p : Int))
  old : ∀ a b, Ed M a b → 0 ≤ gi pl a → gi pl a < (p : Int) → gi pl b = gi pl a
  root : ∀ q, q < p → ∃ r, r < n ∧ gi pl r = (q : Int) ∧ ∀ b, b < n → gi pl b = (q : Int) → Conn (Ed M) r b
  conn : ∀ b, b < n → gi pl b = (p : Int) → Conn (Ed M) c b
  cc : gi pl c = (p : Int)
  low : ∀ b, b < c → 0 ≤ gi pl b
def Qu (n : Nat) (pl : List Int) (p : Nat) (q : List Nat) : Prop := ∀ x, x ∈ q → x < n ∧ gi pl x = (p : Int)
def Wh (M : List Int) (n : Nat) (pl : List Int) (p : Nat) (q : List Nat) : Prop := Qu n pl p q ∧ ∀ a, a < n → gi pl a = (p : Int) → a ∈ q ∨ ∀ b, Ed M a b → gi pl b = (p : Int)
def Fo (M : List Int) (n : Nat) (pl : List Int) (p : Nat) (q : List Nat) (at' s : Nat) : Prop :=
  Qu n pl p q ∧ at' < n ∧ gi pl at' = (p : Int) ∧ (∀ t, t < s → gi pl (mt M (4 * at' + t) / 4) = (p : Int)) ∧ ∀ a, a < n → gi pl a = (p : Int) → a ∈ q ∨ a = at' ∨ ∀ b, Ed M a b → gi pl b = (p : Int)

section
variable {S M : List Int} {L : Int} (k : Ok S M L) {pl : List Int} {p c : Nat}
include k
theorem ed_at {a t : Nat} (ha : a < S.length) (ht : t < 4) : Ed M a (mt M (4 * a + t) / 4) := ⟨4 * a + t, by rw [k.m]; omega, Or.inl ⟨by omega, rfl⟩⟩
theorem ed_of {a b : Nat} (h : Ed M a b) : ∃ t, t < 4 ∧ b = mt M (4 * a + t) / 4 := by
  obtain ⟨h, hh, ⟨e1, e2⟩ | ⟨e1, e2⟩⟩ := h
  · refine ⟨h % 4, Nat.mod_lt _ (by omega), ?_⟩
    have : 4 * a + h % 4 = h := by omega
    rw [this]; exact e2
  · have hl := k.lt h hh
    have hi := k.inv h hh
    refine ⟨mt M h % 4, Nat.mod_lt _ (by omega), ?_⟩
    have : 4 * a + mt M h % 4 = mt M h := by omega
    rw [this, hi]; exact e1
omit k in
theorem bf_start (h : PartO M S.length pl p c) (hc : c < S.length) (hn : gi pl c < 0) : BF M S.length (pl.set c p) p c ∧ Wh M S.length (pl.set c p) p [c] := by
  have hg := fun x => gi_set pl c (p : Int) x (by rw [h.len]; exact hc)
  have hcm : gi pl c = -1 := by rcases h.rng c hc with q | q <;> omega
  refine ⟨⟨by rw [List.length_set]; exact h.len, hc, ?_, ?_, ?_, ?_, ?_, ?_⟩, ?_, ?_⟩
  · intro b hb
    rw [hg]
    split
    · right; omega
    · rcases h.rng b hb with q | q
      · left; exact q
      · right; omega
  · intro a b hab h0 h1
    rw [hg] at h0 h1 ⊢
    by_cases ea : a = c
    · rw [if_pos ea] at h1; omega
    · rw [if_neg ea] at h0 h1
      have := h.clo a b hab h0
      by_cases eb : b = c
      · subst eb; omega
      · rw [if_neg eb, hg, if_neg ea]; exact this
  · intro q hq
    obtain ⟨r, hr, h1, h2⟩ := h.root q hq
    have hne : r ≠ c := by intro e; subst e; omega
    refine ⟨r, hr, by rw [hg, if_neg hne]; exact h1, ?_⟩
    intro b hb h3
    rw [hg] at h3
    by_cases eb : b = c
    · rw [if_pos eb] at h3; omega
    · rw [if_neg eb] at h3; exact h2 b hb h3
  · intro b hb h3
    rw [hg] at h3
    by_cases eb : b = c
    · subst eb; exact .refl _
    · rw [if_neg eb] at h3
      rcases h.rng b hb with q | q <;> omega
  · rw [hg, if_pos rfl]
  · intro b hb
    rw [hg]
    split
    · omega
    · exact h.low b hb
  · intro x hx
    simp at hx
    subst hx
    exact ⟨hc, by rw [hg, if_pos rfl]⟩
  · intro a ha h3
    left
    rw [hg] at h3
    by_cases ea : a = c
    · simp [ea]
    · rw [if_neg ea] at h3
      rcases h.rng a ha with q | q <;> omega
omit k in
theorem wh_pop {q : List Nat} {a : Nat} {n : Nat} (h : Wh M n pl p (a :: q)) : Fo M n pl p q a 0 := by
  refine ⟨fun x hx => h.1 x (List.mem_cons_of_mem _ hx), (h.1 a (by simp)).1, (h.1 a (by simp)).2, fun t ht => by omega, fun b hb h3 => ?_⟩
  rcases h.2 b hb h3 with h4 | h4
  · rcases List.mem_cons.1 h4 with h5 | h5
    · exact Or.inr (Or.inl h5)
    · exact Or.inl h5
  · exact Or.inr (Or.inr h4)
theorem fo_old {q : List Nat} {a s : Nat} (hb : BF M S.length pl p c) (h : Fo M S.length pl p q a s) (hs : s < 4) (h0 : 0 ≤ gi pl (mt M (4 * a + s) / 4)) : Fo M S.length pl p q a (s + 1) := by
  refine ⟨h.1, h.2.1, h.2.2.1, fun t ht => ?_, h.2.2.2.2⟩
  rcases Nat.lt_or_ge t s with ht2 | ht2
  · exact h.2.2.2.1 t ht2
  · have : t = s := by omega
    subst this
    have he := ed_at k h.2.1 hs
    have hl := (he.lt k.rg).2
    rcases hb.rng _ hl with h1 | ⟨h1, h2⟩
    · omega
    · rcases Int.lt_or_eq_of_le h2 with h3 | h3
      · have := hb.old _ _ he.symm h1 h3
        have h4 := h.2.2.1
        omega
      · exact h3
theorem fo_new {q : List Nat} {a s : Nat} (hb : BF M S.length pl p c) (h : Fo M S.length pl p q a s) (hs : s < 4) (h0 : gi pl (mt M (4 * a + s) / 4) < 0) :
    BF M S.length (pl.set (mt M (4 * a + s) / 4) p) p c ∧ Fo M S.length (pl.set (mt M (4 * a + s) / 4) p) p (q ++ [mt M (4 * a + s) / 4]) a (s + 1) := by
  have he := ed_at k h.2.1 hs
  have hl := (he.lt k.rg).2
  generalize hy : mt M (4 * a + s) / 4 = y at *
  have hg := fun x => gi_set pl y (p : Int) x (by rw [hb.len]; exact hl)
  have keep : ∀ x, x < S.length → gi pl x = (p : Int) → gi (pl.set y p) x = (p : Int) := by
    intro x _ hx2
    rw [hg]; split
    · rfl
    · exact hx2
  have keep0 : ∀ x, gi pl x = (p : Int) → gi (pl.set y p) x = (p : Int) := by
    intro x hx2
    rw [hg]; split
    · rfl
    · exact hx2
  have hcy : Conn (Ed M) c y := (hb.conn a h.2.1 h.2.2.1).step he
  refine ⟨⟨by rw [List.length_set]; exact hb.len, hb.cn, ?_, ?_, ?_, ?_, ?_, ?_⟩, ?_, h.2.1, keep a h.2.1 h.2.2.1, ?_, ?_⟩
  · intro b hbn
    rw [hg]
    split
    · right; omega
    · exact hb.rng b hbn
  · intro u v huv h1 h2
    rw [hg] at h1 h2 ⊢
    by_cases eu : u = y
    · rw [if_pos eu] at h2; omega
    · rw [if_neg eu] at h1 h2
      have := hb.old u v huv h1 h2
      by_cases ev : v = y
      · subst ev; omega
      · rw [if_neg ev, hg, if_neg eu]; exact this
  · intro r hr
    obtain ⟨x, hx, h1, h2⟩ := hb.root r hr
    have hne : x ≠ y := by intro e; subst e; omega
    refine ⟨x, hx, by rw [hg, if_neg hne]; exact h1, ?_⟩
    intro b hbn h3
    rw [hg] at h3
    by_cases eb : b = y
    · rw [if_pos eb] at h3; omega
    · rw [if_neg eb] at h3; exact h2 b hbn h3
  · intro b hbn h3
    rw [hg] at h3
    by_cases eb : b = y
    · subst eb; exact hcy
    · rw [if_neg eb] at h3; exact hb.conn b hbn h3
  · exact keep0 c hb.cc
  · intro b hbn
    rw [hg]
    split
    · omega
    · exact hb.low b hbn
  · intro x hx
    rcases List.mem_append.1 hx with h1 | h1
    · exact ⟨(h.1 x h1).1, keep0 x (h.1 x h1).2⟩
    · simp at h1
      subst h1
      exact ⟨hl, by rw [hg, if_pos rfl]⟩
  · intro t ht
    rcases Nat.lt_or_ge t s with ht2 | ht2
    · exact keep0 _ (h.2.2.2.1 t ht2)
    · have : t = s := by omega
      subst this
      rw [hy, hg, if_pos rfl]
  · intro b hbn h3
    rw [hg] at h3
    by_cases eb : b = y
    · left; simp [eb]
    · rw [if_neg eb] at h3
      rcases h.2.2.2.2 b hbn h3 with h4 | h4 | h4
      · left; simp [h4]
      · right; left; exact h4
      · right; right
        intro v hv
        exact keep0 v (h4 v hv)
theorem fo_end {q : List Nat} {a : Nat} (h : Fo M S.length pl p q a 4) : Wh M S.length pl p q := by
  refine ⟨h.1, fun b hb h3 => ?_⟩
  rcases h.2.2.2.2 b hb h3 with h4 | h4 | h4
  · exact Or.inl h4
  · right
    subst h4
    intro v hv
    obtain ⟨t, ht, e⟩ := ed_of k hv
    rw [e]; exact h.2.2.2.1 t ht
  · exact Or.inr h4
theorem wh_end (hb : BF M S.length pl p c) (h : Wh M S.length pl p []) : PartO M S.length pl (p + 1) (c + 1) := by
  refine ⟨hb.len, ?_, ?_, ?_, ?_⟩
  · intro b hbn
    rcases hb.rng b hbn with q | q
    · exact Or.inl q
    · right; omega
  · intro a b hab h0
    have hl := hab.lt k.rg
    rcases hb.rng a hl.1 with q | ⟨q1, q2⟩
    · omega
    · rcases Int.lt_or_eq_of_le q2 with q3 | q3
      · exact hb.old a b hab h0 q3
      · rcases h.2 a hl.1 q3 with h4 | h4
        · simp at h4
        · rw [h4 b hab, q3]
  · intro q hq
    rcases Nat.lt_or_ge q p with hq2 | hq2
    · exact hb.root q hq2
    · have : q = p := by omega
      subst this
      exact ⟨c, hb.cn, hb.cc, hb.conn⟩
  · intro b hbc
    rcases Nat.lt_or_ge b c with h1 | h1
    · exact hb.low b h1
    · have : b = c := by omega
      subst this
      rw [hb.cc]; omega
end
end Go.Proofs.Ytcjaloddgilnpaa
