/- When a diagram is valid: plain. -/
/- The numbers of the arcs: plain. -/
/- Union and find: plain. -/
/- The components of the graph, by a search in breadth: plain. -/
/- A queue of integers: a slice of the call's own that is cut at its head and appended to. -/
import Derived.Test.YtcjaloddgilnpaaZArp
import Derived.Deep.AppendSrc
namespace Go.Proofs.Ytcjaloddgilnpaa
set_option linter.unusedVariables false
open Go.RowKit

def sgB (s : Int) : Bool := s == 1 || s == -1
/-- the tests at a half-edge -/
def mtB (S M : List Int) (h : Nat) : Bool :=
  decide (0 ≤ M[h]?.getD 0) && (decide (M[h]?.getD 0 < ((4 * S.length : Nat) : Int)) && (decide (M[h]?.getD 0 ≠ (h : Int)) && (decide (M[mt M h]?.getD 0 = (h : Int)) && (outB S h != outB S (mt M h)))))
def okB (S M : List Int) (L : Int) : Bool :=
  decide (S.length ≤ 64) && (decide (M.length = 4 * S.length) && (decide (0 ≤ L) && (decide (L ≤ 64) && (S.all sgB && (List.range M.length).all (mtB S M)))))
/-- how many crossings, and how many faces, bear the label c -/
def crN (l : List Nat) (c m : Nat) : Nat := (List.range m).countP fun b => gn l b == c
def fcN (l : List Nat) (c : Nat) (hs : List Nat) : Nat := hs.countP fun h => gn l (h / 4) == c
def spB (M : List Int) (l : List Nat) (c : Nat) : Bool := gn l c != c || fcN l c (hdU (phi M) M.length M.length) == crN l c l.length + 2
def sphR (M : List Int) (n : Nat) : Bool := (List.range n).all (spB M (labK M n n))
def valB (S M : List Int) (L : Int) : Bool := okB S M L && sphR M S.length

theorem crN_succ (l : List Nat) (c m : Nat) : crN l c (m + 1) = crN l c m + (if gn l m = c then 1 else 0) := by
  unfold crN; rw [List.range_succ, List.countP_append, List.countP_singleton]; simp
theorem crN_le (l : List Nat) (c m : Nat) : crN l c m ≤ m := by
  have := List.countP_le_length (p := fun b => gn l b == c) (l := List.range m); simpa [crN] using this
theorem fcN_succ (l : List Nat) (c : Nat) (hs : List Nat) (i : Nat) (hi : i < hs.length) : fcN l c (hs.take (i + 1)) = fcN l c (hs.take i) + (if gn l (hs[i] / 4) = c then 1 else 0) := by
  unfold fcN
  rw [List.take_add_one, List.getElem?_eq_getElem hi, List.countP_append, Option.toList_some, List.countP_singleton]; simp
theorem fcN_le (l : List Nat) (c : Nat) (hs : List Nat) (i : Nat) : fcN l c (hs.take i) ≤ i := by
  have := List.countP_le_length (p := fun h => gn l (h / 4) == c) (l := hs.take i)
  rw [List.length_take] at this
  unfold fcN; omega
theorem hdU_mem {f : Nat → Nat} {n k x : Nat} (h : x ∈ hdU f n k) : x < k := by
  unfold hdU at h; exact List.mem_range.1 (List.mem_filter.1 h).1
theorem sph_bad {M : List Int} {n c : Nat} (hc : c < n) (h : spB M (labK M n n) c = false) : sphR M n = false := by
  rw [Bool.eq_false_iff]
  intro e
  have := List.all_eq_true.1 e c (List.mem_range.2 hc)
  rw [h] at this; cases this
theorem sph_good {M : List Int} {n : Nat} (h : ∀ c, c < n → spB M (labK M n n) c = true) : sphR M n = true :=
  List.all_eq_true.2 fun c hc => h c (List.mem_range.1 hc)

structure Ok (S M : List Int) (L : Int) : Prop where
  n : S.length ≤ 64
  m : M.length = 4 * S.length
  l0 : 0 ≤ L
  l1 : L ≤ 64
  sg : ∀ i (h : i < S.length), S[i] = 1 ∨ S[i] = -1
  pos : ∀ h (hh : h < M.length), 0 ≤ M[h]
  lt : ∀ h, h < M.length → mt M h < M.length
  ne : ∀ h, h < M.length → mt M h ≠ h
  inv : ∀ h, h < M.length → mt M (mt M h) = h
  out : ∀ h, h < M.length → outB S h ≠ outB S (mt M h)
theorem getD_lt {M : List Int} {h : Nat} (hh : h < M.length) : M[h]?.getD 0 = M[h] := by rw [List.getElem?_eq_getElem hh]; rfl
theorem ok_of {S M : List Int} {L : Int} (h : okB S M L = true) : Ok S M L := by
  unfold okB at h
  simp only [Bool.and_eq_true, decide_eq_true_eq, List.all_eq_true, List.mem_range] at h
  obtain ⟨h1, h2, h3, h4, h5, h6⟩ := h
  have h7 : ∀ x, x < M.length → 0 ≤ M[x]?.getD 0 ∧ M[x]?.getD 0 < ((4 * S.length : Nat) : Int) ∧ M[x]?.getD 0 ≠ (x : Int) ∧ M[mt M x]?.getD 0 = (x : Int) ∧ outB S x ≠ outB S (mt M x) := by
    intro x hx
    have := h6 x hx
    unfold mtB at this
    simpa [Bool.and_eq_true] using this
  have hlt : ∀ x, x < M.length → mt M x < M.length := by
    intro x hx
    have := h7 x hx
    unfold mt
    omega
  refine ⟨h1, h2, h3, h4, ?_, ?_, hlt, ?_, ?_, ?_⟩
  · intro i hi
    have := h5 S[i] (List.getElem_mem hi)
    simpa [sgB] using this
  · intro x hx
    have := (h7 x hx).1
    rw [getD_lt hx] at this; exact this
  · intro x hx e
    have := h7 x hx
    unfold mt at e
    omega
  · intro x hx
    have h8 := (h7 x hx).2.2.2.1
    have : mt M (mt M x) = (M[mt M x]?.getD 0).toNat := rfl
    rw [this, h8]; omega
  · intro x hx; exact (h7 x hx).2.2.2.2
section
variable {S M : List Int} {L : Int} (k : Ok S M L)
include k
theorem Ok.rg : Rg M S.length := ⟨k.m, fun h hh => by have := k.lt h (by rw [k.m]; exact hh); rw [k.m] at this; exact this⟩
theorem Ok.rh : Rh M M.length := ⟨by rw [k.m]; omega, k.lt⟩
theorem Ok.perm : PermF M.length (phi M) := by
  have hl : ∀ h, h < M.length → phi M h < M.length := by
    intro h hh
    have h1 := k.lt h hh
    have h2 := k.m
    unfold phi turnN
    omega
  have hj : ∀ a b, a < M.length → b < M.length → phi M a = phi M b → a = b := by
    intro a b ha hb e
    have e1 : mt M a = mt M b := by
      unfold phi turnN at e
      omega
    have h3 := k.inv a ha
    have h4 := k.inv b hb
    rw [← h3, e1, h4]
  constructor <;> first | exact hl | exact hj
end
end Go.Proofs.Ytcjaloddgilnpaa

namespace Go.Proofs.Ytcjaloddgilnpaa
set_option linter.unusedVariables false

/-- how many of the first m are their own label -/
def rk (l : List Nat) : Nat → Nat
  | 0 => 0
  | m + 1 => if gn l m = m then rk l m + 1 else rk l m
theorem rk_le (l : List Nat) : ∀ m, rk l m ≤ m
  | 0 => Nat.le_refl _
  | m + 1 => by have := rk_le l m; rw [rk]; split <;> omega
/-- the numbers of the first k half-edges, then zeros -/
def numA (l : List Nat) (n k : Nat) : List Nat := (List.range n).map fun i => if i < k then rk l (gn l i) else 0
theorem numA_length (l : List Nat) (n k : Nat) : (numA l n k).length = n := by simp [numA]
theorem gn_numA {l : List Nat} {n k i : Nat} (hi : i < n) : gn (numA l n k) i = if i < k then rk l (gn l i) else 0 := by
  unfold gn numA; rw [List.getElem?_map, List.getElem?_range hi]; rfl
theorem numA_step {l : List Nat} {n k : Nat} (h : k < n) : (numA l n k).set k (rk l (gn l k)) = numA l n (k + 1) := by
  apply List.ext_getElem?
  intro i
  unfold numA
  rw [List.getElem?_set]
  by_cases e : k = i
  · subst e; simp [h]
  · by_cases hi : i < n
    · simp [e, hi]
      by_cases h1 : i < k
      · rw [if_pos h1, if_pos (by omega)]
      · rw [if_neg h1, if_neg (by omega)]
    · simp [e, hi]
/-- where the label is another one, its number is there already -/
theorem numA_old {l : List Nat} {n k : Nat} (h : k < n) (h1 : gn l k < k) (h2 : gn l (gn l k) = gn l k) : gn (numA l n k) (gn l k) = rk l (gn l k) := by
  rw [gn_numA (by omega), if_pos h1, h2]
end Go.Proofs.Ytcjaloddgilnpaa

namespace Go.Proofs.Ytcjaloddgilnpaa
set_option linter.unusedVariables false

/-- from x the root r is reached in n steps -/
def Dp (P : List Nat) : Nat → Nat → Nat → Prop
  | 0, x, r => gn P x = x ∧ r = x
  | n + 1, x, r => gn P x ≠ x ∧ Dp P n (gn P x) r
theorem Dp.root {P : List Nat} : ∀ {n x r : Nat}, Dp P n x r → gn P r = r
  | 0, _, _, h => by obtain ⟨h1, rfl⟩ := h; exact h1
  | _ + 1, _, _, h => Dp.root h.2
theorem Dp.uniq {P : List Nat} : ∀ {n m x r s : Nat}, Dp P n x r → Dp P m x s → n = m ∧ r = s
  | 0, 0, _, _, _, h, k => ⟨rfl, h.2.trans k.2.symm⟩
  | 0, _ + 1, _, _, _, h, k => absurd h.1 k.1
  | _ + 1, 0, _, _, _, h, k => absurd k.1 h.1
  | _ + 1, _ + 1, _, _, _, h, k => by obtain ⟨h1, h2⟩ := Dp.uniq h.2 k.2; exact ⟨by omega, h2⟩
theorem Dp.lt {P : List Nat} {N : Nat} (hP : ∀ x, x < N → gn P x < N) : ∀ {n x r : Nat}, Dp P n x r → x < N → r < N
  | 0, _, _, h, hx => by rw [h.2]; exact hx
  | _ + 1, _, _, h, hx => Dp.lt hP h.2 (hP _ hx)
theorem Dp.ne {P : List Nat} {n x r : Nat} (h : Dp P n x r) (hx : gn P x ≠ x) : r ≠ x := fun e => by have := h.root; rw [e] at this; exact hx this

/-- the roots are kept -/
structure Kp (P P' : List Nat) : Prop where
  len : P'.length = P.length
  dp : ∀ x m r, Dp P m x r → ∃ m', Dp P' m' x r
  lt : ∀ N, (∀ x, x < N → gn P x < N) → ∀ x, x < N → gn P' x < N
theorem Kp.refl (P : List Nat) : Kp P P := ⟨rfl, fun _ m _ h => ⟨m, h⟩, fun _ h => h⟩
theorem Kp.trans {P Q R : List Nat} (h : Kp P Q) (k : Kp Q R) : Kp P R :=
  ⟨k.len.trans h.len, fun x m r hd => by obtain ⟨m', h'⟩ := h.dp x m r hd; exact k.dp x m' r h', fun N hN => k.lt N (h.lt N hN)⟩
/-- an element is made to point at its root -/
theorem Kp.short {P : List Nat} {n x r : Nat} (hx : x < P.length) (h : Dp P n x r) (hne : gn P x ≠ x) : Kp P (P.set x r) := by
  have hg := fun c => gn_set P x r c hx
  have hrx : r ≠ x := h.ne hne
  refine ⟨by simp, ?_, ?_⟩
  · intro y m
    induction m generalizing y with
    | zero =>
      intro s hd
      refine ⟨0, ?_, hd.2⟩
      rw [hg]
      by_cases e : y = x
      · subst e; exact absurd hd.1 hne
      · rw [if_neg e]; exact hd.1
    | succ m ih =>
      intro s hd
      by_cases e : y = x
      · subst e
        have hs := (Dp.uniq h hd).2
        subst hs
        have e1 : gn (P.set y r) y = r := by rw [hg, if_pos rfl]
        have e2 : gn (P.set y r) r = r := by rw [hg, if_neg hrx]; exact h.root
        exact ⟨1, by rw [e1]; exact hrx, by rw [e1]; exact e2, by rw [e1]⟩
      · obtain ⟨m', h'⟩ := ih _ s hd.2
        refine ⟨m' + 1, ?_, ?_⟩
        · rw [hg, if_neg e]; exact hd.1
        · rw [hg, if_neg e]; exact h'
  · intro N hN y hy
    rw [hg]
    split
    · rename_i e; subst e; exact h.lt hN hy
    · exact hN y hy
/-- find: the root is found, the roots are kept, and elements that lie deeper stay as they are -/
structure Fnd (P P' : List Nat) (n : Nat) : Prop where
  kp : Kp P P'
  deep : ∀ y, (∀ m s, Dp P m y s → n < m) → gn P' y = gn P y
theorem Fnd.refl (P : List Nat) : Fnd P P 0 := ⟨Kp.refl P, fun _ _ => rfl⟩
theorem Fnd.stays {P P' : List Nat} {n x r : Nat} (h : Fnd P P' n) (hne : gn P x ≠ x) (hd : Dp P n (gn P x) r) : gn P' x = gn P x :=
  h.deep x fun m s hm => by have := (Dp.uniq (show Dp P (n + 1) x r from ⟨hne, hd⟩) hm).1; omega
theorem Fnd.step {P P' : List Nat} {n x r : Nat} (hx : x < P.length) (h : Fnd P P' n) (hne : gn P x ≠ x) (hd : Dp P n (gn P x) r) : Fnd P (P'.set x r) (n + 1) := by
  have h1 : Dp P (n + 1) x r := ⟨hne, hd⟩
  obtain ⟨m', h2⟩ := h.kp.dp x _ r h1
  have h3 : gn P' x ≠ x := by rw [h.stays hne hd]; exact hne
  refine ⟨h.kp.trans (Kp.short (by rw [h.kp.len]; exact hx) h2 h3), fun y hy => ?_⟩
  have hyx : y ≠ x := fun e => by subst e; have := hy _ _ h1; omega
  rw [gn_set _ _ _ _ (by rw [h.kp.len]; exact hx), if_neg hyx]
  exact h.deep y fun m s hm => by have := hy m s hm; omega

/-- every element has a root -/
structure Fst (N : Nat) (P : List Nat) : Prop where
  len : P.length = N
  lt : ∀ x, x < N → gn P x < N
  ex : ∀ x, x < N → ∃ n r, Dp P n x r
theorem Fst.keep {N : Nat} {P P' : List Nat} (h : Fst N P) (k : Kp P P') : Fst N P' :=
  ⟨k.len.trans h.len, k.lt N h.lt, fun x hx => by obtain ⟨n, r, hd⟩ := h.ex x hx; obtain ⟨m, h'⟩ := k.dp x n r hd; exact ⟨m, r, h'⟩⟩
/-- the same root -/
def Sm (P : List Nat) (x y : Nat) : Prop := ∃ m m' r, Dp P m x r ∧ Dp P m' y r
theorem Sm.keep {P P' : List Nat} {x y : Nat} (h : Sm P x y) (k : Kp P P') : Sm P' x y := by
  obtain ⟨m, m', r, h1, h2⟩ := h
  obtain ⟨a, h3⟩ := k.dp _ _ _ h1
  obtain ⟨b, h4⟩ := k.dp _ _ _ h2
  exact ⟨a, b, r, h3, h4⟩
theorem Sm.symm {P : List Nat} {x y : Nat} (h : Sm P x y) : Sm P y x := by obtain ⟨m, m', r, h1, h2⟩ := h; exact ⟨m', m, r, h2, h1⟩
theorem Sm.trans {P : List Nat} {x y z : Nat} (h : Sm P x y) (k : Sm P y z) : Sm P x z := by
  obtain ⟨m, m', r, h1, h2⟩ := h
  obtain ⟨n, n', s, h3, h4⟩ := k
  have := (Dp.uniq h2 h3).2
  subst this
  exact ⟨m, n', r, h1, h4⟩
/-- two roots are joined -/
theorem join_dp {P : List Nat} {a b : Nat} (ha : a < P.length) (hb : gn P b = b) (hab : a ≠ b) : ∀ {m y s : Nat}, Dp P m y s → gn P a = a → ∃ m', Dp (P.set a b) m' y (if s = a then b else s) := by
  have hg := fun c => gn_set P a b c ha
  intro m
  induction m with
  | zero =>
    intro y s hd haa
    obtain ⟨h1, rfl⟩ := hd
    by_cases e : s = a
    · subst e
      rw [if_pos rfl]
      have e1 : gn (P.set s b) s = b := by rw [hg, if_pos rfl]
      have e2 : gn (P.set s b) b = b := by rw [hg, if_neg (Ne.symm hab)]; exact hb
      exact ⟨1, by rw [e1]; exact Ne.symm hab, by rw [e1]; exact e2, by rw [e1]⟩
    · rw [if_neg e]
      exact ⟨0, by rw [hg, if_neg e]; exact h1, rfl⟩
  | succ m ih =>
    intro y s hd haa
    have e : y ≠ a := fun e => by subst e; exact hd.1 haa
    obtain ⟨m', h'⟩ := ih hd.2 haa
    exact ⟨m' + 1, by rw [hg, if_neg e]; exact hd.1, by rw [hg, if_neg e]; exact h'⟩
/-- the state of the joining: a forest whose trees lie inside the classes of E -/
structure UF (E : Nat → Nat → Prop) (N : Nat) (P : List Nat) : Prop where
  fst : Fst N P
  snd : ∀ x m r, x < N → Dp P m x r → Conn E x r
theorem UF.keep {E : Nat → Nat → Prop} {N : Nat} {P P' : List Nat} (h : UF E N P) (k : Kp P P') : UF E N P' := by
  refine ⟨h.fst.keep k, fun x m r hx hd => ?_⟩
  obtain ⟨n, s, h1⟩ := h.fst.ex x hx
  obtain ⟨n', h2⟩ := k.dp x n s h1
  have := (Dp.uniq h2 hd).2
  subst this
  exact h.snd x n s hx h1
theorem join_any {E : Nat → Nat → Prop} {N : Nat} {P : List Nat} {a b u v m m' : Nat} (h : UF E N P) (hE : ∀ x y, E x y → E y x) (hu : u < N) (hv : v < N) (he : Conn E u v) (h1 : Dp P m u a) (h2 : Dp P m' v b) :
    UF E N (P.set a b) ∧ Sm (P.set a b) u v ∧ ∀ x y, Sm P x y → Sm (P.set a b) x y := by
  have haN := h1.lt h.fst.lt hu
  have hbN := h2.lt h.fst.lt hv
  have ha : a < P.length := by rw [h.fst.len]; exact haN
  by_cases hab : a = b
  · subst hab
    have hs : P.set a a = P := by
      apply List.ext_getElem?
      intro i
      rw [List.getElem?_set]
      by_cases e : a = i
      · subst e
        have := h1.root
        unfold gn at this
        rw [List.getElem?_eq_getElem ha] at this ⊢
        simp at this ⊢
        simp [ha, this]
      · simp [e]
    rw [hs]
    exact ⟨h, ⟨m, m', a, h1, h2⟩, fun _ _ k => k⟩
  · have hj := fun {m y s : Nat} (hd : Dp P m y s) => join_dp ha h2.root hab hd h1.root
    have hsm : ∀ x y, Sm P x y → Sm (P.set a b) x y := by
      rintro x y ⟨n, n', r, h3, h4⟩
      obtain ⟨p, h5⟩ := hj h3
      obtain ⟨q, h6⟩ := hj h4
      exact ⟨p, q, _, h5, h6⟩
    have hself : Sm (P.set a b) u v := by
      obtain ⟨p, h5⟩ := hj h1
      obtain ⟨q, h6⟩ := hj h2
      rw [if_pos rfl] at h5
      rw [if_neg (Ne.symm hab)] at h6
      exact ⟨p, q, b, h5, h6⟩
    refine ⟨⟨⟨by rw [List.length_set]; exact h.fst.len, ?_, ?_⟩, ?_⟩, hself, hsm⟩
    · intro x hx
      rw [gn_set _ _ _ _ ha]
      split
      · exact hbN
      · exact h.fst.lt x hx
    · intro x hx
      obtain ⟨n, r, hd⟩ := h.fst.ex x hx
      obtain ⟨p, h5⟩ := hj hd
      exact ⟨p, _, h5⟩
    · intro x n r hx hd
      obtain ⟨p, s, h5⟩ := h.fst.ex x hx
      obtain ⟨q, h6⟩ := hj h5
      have hr := (Dp.uniq h6 hd).2
      have hxs := h.snd x p s hx h5
      by_cases e : s = a
      · rw [if_pos e] at hr
        subst e hr
        have h7 := h.snd u m s hu h1
        have h8 := h.snd v m' b hv h2
        exact hxs.trans ((h7.symm hE).trans (he.trans h8))
      · rw [if_neg e] at hr
        subst hr; exact hxs
/-- at the beginning each element is its own root -/
theorem uf_start (E : Nat → Nat → Prop) (N : Nat) : UF E N (List.range N) := by
  have hg : ∀ x, x < N → gn (List.range N) x = x := fun x hx => by unfold gn; rw [List.getElem?_range hx]; rfl
  refine ⟨⟨by simp, fun x hx => by rw [hg x hx]; exact hx, fun x hx => ⟨0, x, hg x hx, rfl⟩⟩, fun x m r hx hd => ?_⟩
  have := (Dp.uniq (show Dp (List.range N) 0 x x from ⟨hg x hx, rfl⟩) hd).2
  subst this; exact .refl _

/- the arcs -/
section
variable {S M : List Int} {L : Int} (k : Ok S M L)
include k
theorem sees_symm (a b : Nat) (h : Sees M M.length a b) : Sees M M.length b a := by
  obtain ⟨hb, rfl | ⟨h1, rfl⟩⟩ := h
  · exact ⟨k.lt b hb, Or.inl (k.inv b hb).symm⟩
  · refine ⟨opp_lt k.rh hb, Or.inr ⟨by unfold opp; omega, by unfold opp; omega⟩⟩
theorem sees_mate {h : Nat} (hh : h < M.length) : Conn (Sees M M.length) h (mt M h) := .one ⟨k.lt h hh, Or.inl (k.inv h hh).symm⟩
theorem sees_over {c : Nat} (hc : c < S.length) : Conn (Sees M M.length) (4 * c + 1) (4 * c + 3) := .one ⟨by rw [k.m]; omega, Or.inr ⟨by omega, by unfold opp; omega⟩⟩
theorem uf_conn {P : List Nat} (h : UF (Sees M M.length) M.length P) (h1 : ∀ x, x < M.length → Sm P x (mt M x)) (h2 : ∀ c, c < S.length → Sm P (4 * c + 1) (4 * c + 3)) {x y : Nat} (hx : x < M.length) (hy : y < M.length) : Sm P x y ↔ Conn (Sees M M.length) x y := by
  constructor
  · rintro ⟨m, m', r, d1, d2⟩
    exact (h.snd x m r hx d1).trans ((h.snd y m' r hy d2).symm (sees_symm k))
  · intro hc
    have := Conn.closed (P := fun z => z < M.length ∧ Sm P x z) ?_ hc ⟨hx, by obtain ⟨n, r, hd⟩ := h.fst.ex x hx; exact ⟨n, n, r, hd, hd⟩⟩
    · exact this.2
    · intro u v huv ⟨hu, hs⟩
      obtain ⟨hv, e | ⟨ho, e⟩⟩ := huv
      · subst e
        exact ⟨hv, hs.trans (h1 v hv).symm⟩
      · refine ⟨hv, hs.trans ?_⟩
        have hc4 : v / 4 < S.length := by have := k.m; omega
        rcases (by omega : v % 4 = 1 ∨ v % 4 = 3) with q | q
        · have e1 : v = 4 * (v / 4) + 1 := by omega
          have e2 : u = 4 * (v / 4) + 3 := by rw [e]; unfold opp; omega
          rw [e2, show Sm P (4 * (v / 4) + 3) v = Sm P (4 * (v / 4) + 3) (4 * (v / 4) + 1) by rw [← e1]]
          exact (h2 _ hc4).symm
        · have e1 : v = 4 * (v / 4) + 3 := by omega
          have e2 : u = 4 * (v / 4) + 1 := by rw [e]; unfold opp; omega
          rw [e2, show Sm P (4 * (v / 4) + 1) v = Sm P (4 * (v / 4) + 1) (4 * (v / 4) + 3) by rw [← e1]]
          exact h2 _ hc4
/-- the label of the reference: the least of the class -/
theorem la_lt {x y : Nat} (hy : y < M.length) (h : Conn (Sees M M.length) x y) : x < M.length := by
  have := Conn.closed (P := fun z => z < M.length) (fun u v e _ => ((sees_symm k _ _ e).lt k.rh).1) (h.symm (sees_symm k)) hy
  exact this
theorem la_eq {x y : Nat} (hx : x < M.length) (hy : y < M.length) : gn (labA M M.length M.length) x = gn (labA M M.length M.length) y ↔ Conn (Sees M M.length) x y := by
  have cx := labA_conn k.rh M.length x hx
  have cy := labA_conn k.rh M.length y hy
  have sy := fun {a b : Nat} (h : Conn (Sees M M.length) a b) => h.symm (sees_symm k)
  constructor
  · intro e
    rw [e] at cx
    exact (sy cx).trans cy
  · intro h
    apply Nat.le_antisymm
    · exact labA_least k.rh (la_lt k hy cy) (cy.trans (sy h))
    · exact labA_least k.rh (la_lt k hx cx) (cx.trans h)
theorem la_le {x : Nat} (hx : x < M.length) : gn (labA M M.length M.length) x ≤ x := labA_least k.rh hx (.refl _)
theorem la_self {x : Nat} (hx : x < M.length) : gn (labA M M.length M.length) (gn (labA M M.length M.length) x) = gn (labA M M.length M.length) x :=
  (la_eq k (la_lt k hx (labA_conn k.rh M.length x hx)) hx).2 (labA_conn k.rh M.length x hx)
end
end Go.Proofs.Ytcjaloddgilnpaa

namespace Go.Proofs.Ytcjaloddgilnpaa
set_option linter.unusedVariables false

def gi (l : List Int) (k : Nat) : Int := l[k]?.getD 0
theorem gi_set (l : List Int) (a : Nat) (x : Int) (c : Nat) (ha : a < l.length) : gi (l.set a x) c = if c = a then x else gi l c := by
  unfold gi
  rw [List.getElem?_set]
  by_cases h : a = c
  · subst h; simp [ha]
  · have h' : ¬ c = a := fun e => h e.symm
    simp [h, h']
/-- how many are not labelled -/
def unl (l : List Int) : Nat := l.countP fun x => decide (x < 0)
theorem unl_set : ∀ (l : List Int) (k : Nat) (x : Int), k < l.length → gi l k < 0 → 0 ≤ x → unl (l.set k x) + 1 = unl l
  | [], k, x, h, _, _ => by simp at h
  | y :: l, 0, x, _, h1, h2 => by
    have h3 : y < 0 := h1
    have h4 : ¬ x < 0 := by omega
    simp [unl, h3, h4]
  | y :: l, k + 1, x, h, h1, h2 => by
    have := unl_set l k x (by simpa using h) h1 h2
    unfold unl at this ⊢
    rw [List.set_cons_succ, List.countP_cons, List.countP_cons]
    omega
theorem unl_le (l : List Int) : unl l ≤ l.length := List.countP_le_length

/-- between two searches: p components are labelled, and all crossings before c -/
structure PartO (M : List Int) (n : Nat) (pl : List Int) (p c : Nat) : Prop where
  len : pl.length = n
  rng : ∀ b, b < n → gi pl b = -1 ∨ (0 ≤ gi pl b ∧ gi pl b < (p : Int))
  clo : ∀ a b, Ed M a b → 0 ≤ gi pl a → gi pl b = gi pl a
  root : ∀ q, q < p → ∃ r, r < n ∧ gi pl r = (q : Int) ∧ ∀ b, b < n → gi pl b = (q : Int) → Conn (Ed M) r b
  low : ∀ b, b < c → 0 ≤ gi pl b
/-- during the search from c -/
structure BF (M : List Int) (n : Nat) (pl : List Int) (p c : Nat) : Prop where
  len : pl.length = n
  cn : c < n
  rng : ∀ b, b < n → gi pl b = -1 ∨ (0 ≤ gi pl b ∧ gi pl b ≤ (p : Int))
  old : ∀ a b, Ed M a b → 0 ≤ gi pl a → gi pl a < (p : Int) → gi pl b = gi pl a
  root : ∀ q, q < p → ∃ r, r < n ∧ gi pl r = (q : Int) ∧ ∀ b, b < n → gi pl b = (q : Int) → Conn (Ed M) r b
  conn : ∀ b, b < n → gi pl b = (p : Int) → Conn (Ed M) c b
  cc : gi pl c = (p : Int)
  low : ∀ b, b < c → 0 ≤ gi pl b
def Qu (n : Nat) (pl : List Int) (p : Nat) (q : List Nat) : Prop := ∀ x, x ∈ q → x < n ∧ gi pl x = (p : Int)
def Wh (M : List Int) (n : Nat) (pl : List Int) (p : Nat) (q : List Nat) : Prop := Qu n pl p q ∧ ∀ a, a < n → gi pl a = (p : Int) → a ∈ q ∨ ∀ b, Ed M a b → gi pl b = (p : Int)
def Fo (M : List Int) (n : Nat) (pl : List Int) (p : Nat) (q : List Nat) (at' s : Nat) : Prop :=
  Qu n pl p q ∧ at' < n ∧ gi pl at' = (p : Int) ∧ (∀ t, t < s → gi pl (mt M (4 * at' + t) / 4) = (p : Int)) ∧ ∀ a, a < n → gi pl a = (p : Int) → a ∈ q ∨ a = at' ∨ ∀ b, Ed M a b → gi pl b = (p : Int)

section
variable {S M : List Int} {L : Int} (k : Ok S M L) {pl : List Int} {p c : Nat}
include k
theorem ed_at {a t : Nat} (ha : a < S.length) (ht : t < 4) : Ed M a (mt M (4 * a + t) / 4) := ⟨4 * a + t, by rw [k.m]; omega, Or.inl ⟨by omega, rfl⟩⟩
theorem ed_of {a b : Nat} (h : Ed M a b) : ∃ t, t < 4 ∧ b = mt M (4 * a + t) / 4 := by
  obtain ⟨h, hh, ⟨e1, e2⟩ | ⟨e1, e2⟩⟩ := h
  · refine ⟨h % 4, Nat.mod_lt _ (by omega), ?_⟩
    have : 4 * a + h % 4 = h := by omega
    rw [this]; exact e2
  · have hl := k.lt h hh
    have hi := k.inv h hh
    refine ⟨mt M h % 4, Nat.mod_lt _ (by omega), ?_⟩
    have : 4 * a + mt M h % 4 = mt M h := by omega
    rw [this, hi]; exact e1
omit k in
theorem bf_start (h : PartO M S.length pl p c) (hc : c < S.length) (hn : gi pl c < 0) : BF M S.length (pl.set c p) p c ∧ Wh M S.length (pl.set c p) p [c] := by
  have hg := fun x => gi_set pl c (p : Int) x (by rw [h.len]; exact hc)
  have hcm : gi pl c = -1 := by rcases h.rng c hc with q | q <;> omega
  refine ⟨⟨by rw [List.length_set]; exact h.len, hc, ?_, ?_, ?_, ?_, ?_, ?_⟩, ?_, ?_⟩
  · intro b hb
    rw [hg]
    split
    · right; omega
    · rcases h.rng b hb with q | q
      · left; exact q
      · right; omega
  · intro a b hab h0 h1
    rw [hg] at h0 h1 ⊢
    by_cases ea : a = c
    · rw [if_pos ea] at h1; omega
    · rw [if_neg ea] at h0 h1
      have := h.clo a b hab h0
      by_cases eb : b = c
      · subst eb; omega
      · rw [if_neg eb, hg, if_neg ea]; exact this
  · intro q hq
    obtain ⟨r, hr, h1, h2⟩ := h.root q hq
    have hne : r ≠ c := by intro e; subst e; omega
    refine ⟨r, hr, by rw [hg, if_neg hne]; exact h1, ?_⟩
    intro b hb h3
    rw [hg] at h3
    by_cases eb : b = c
    · rw [if_pos eb] at h3; omega
    · rw [if_neg eb] at h3; exact h2 b hb h3
  · intro b hb h3
    rw [hg] at h3
    by_cases eb : b = c
    · subst eb; exact .refl _
    · rw [if_neg eb] at h3
      rcases h.rng b hb with q | q <;> omega
  · rw [hg, if_pos rfl]
  · intro b hb
    rw [hg]
    split
    · omega
    · exact h.low b hb
  · intro x hx
    simp at hx
    subst hx
    exact ⟨hc, by rw [hg, if_pos rfl]⟩
  · intro a ha h3
    left
    rw [hg] at h3
    by_cases ea : a = c
    · simp [ea]
    · rw [if_neg ea] at h3
      rcases h.rng a ha with q | q <;> omega
omit k in
theorem wh_pop {q : List Nat} {a : Nat} {n : Nat} (h : Wh M n pl p (a :: q)) : Fo M n pl p q a 0 := by
  refine ⟨fun x hx => h.1 x (List.mem_cons_of_mem _ hx), (h.1 a (by simp)).1, (h.1 a (by simp)).2, fun t ht => by omega, fun b hb h3 => ?_⟩
  rcases h.2 b hb h3 with h4 | h4
  · rcases List.mem_cons.1 h4 with h5 | h5
    · exact Or.inr (Or.inl h5)
    · exact Or.inl h5
  · exact Or.inr (Or.inr h4)
theorem fo_old {q : List Nat} {a s : Nat} (hb : BF M S.length pl p c) (h : Fo M S.length pl p q a s) (hs : s < 4) (h0 : 0 ≤ gi pl (mt M (4 * a + s) / 4)) : Fo M S.length pl p q a (s + 1) := by
  refine ⟨h.1, h.2.1, h.2.2.1, fun t ht => ?_, h.2.2.2.2⟩
  rcases Nat.lt_or_ge t s with ht2 | ht2
  · exact h.2.2.2.1 t ht2
  · have : t = s := by omega
    subst this
    have he := ed_at k h.2.1 hs
    have hl := (he.lt k.rg).2
    rcases hb.rng _ hl with h1 | ⟨h1, h2⟩
    · omega
    · rcases Int.lt_or_eq_of_le h2 with h3 | h3
      · have := hb.old _ _ he.symm h1 h3
        have h4 := h.2.2.1
        omega
      · exact h3
theorem fo_new {q : List Nat} {a s : Nat} (hb : BF M S.length pl p c) (h : Fo M S.length pl p q a s) (hs : s < 4) (h0 : gi pl (mt M (4 * a + s) / 4) < 0) :
    BF M S.length (pl.set (mt M (4 * a + s) / 4) p) p c ∧ Fo M S.length (pl.set (mt M (4 * a + s) / 4) p) p (q ++ [mt M (4 * a + s) / 4]) a (s + 1) := by
  have he := ed_at k h.2.1 hs
  have hl := (he.lt k.rg).2
  generalize hy : mt M (4 * a + s) / 4 = y at *
  have hg := fun x => gi_set pl y (p : Int) x (by rw [hb.len]; exact hl)
  have keep : ∀ x, x < S.length → gi pl x = (p : Int) → gi (pl.set y p) x = (p : Int) := by
    intro x _ hx2
    rw [hg]; split
    · rfl
    · exact hx2
  have keep0 : ∀ x, gi pl x = (p : Int) → gi (pl.set y p) x = (p : Int) := by
    intro x hx2
    rw [hg]; split
    · rfl
    · exact hx2
  have hcy : Conn (Ed M) c y := (hb.conn a h.2.1 h.2.2.1).step he
  refine ⟨⟨by rw [List.length_set]; exact hb.len, hb.cn, ?_, ?_, ?_, ?_, ?_, ?_⟩, ?_, h.2.1, keep a h.2.1 h.2.2.1, ?_, ?_⟩
  · intro b hbn
    rw [hg]
    split
    · right; omega
    · exact hb.rng b hbn
  · intro u v huv h1 h2
    rw [hg] at h1 h2 ⊢
    by_cases eu : u = y
    · rw [if_pos eu] at h2; omega
    · rw [if_neg eu] at h1 h2
      have := hb.old u v huv h1 h2
      by_cases ev : v = y
      · subst ev; omega
      · rw [if_neg ev, hg, if_neg eu]; exact this
  · intro r hr
    obtain ⟨x, hx, h1, h2⟩ := hb.root r hr
    have hne : x ≠ y := by intro e; subst e; omega
    refine ⟨x, hx, by rw [hg, if_neg hne]; exact h1, ?_⟩
    intro b hbn h3
    rw [hg] at h3
    by_cases eb : b = y
    · rw [if_pos eb] at h3; omega
    · rw [if_neg eb] at h3; exact h2 b hbn h3
  · intro b hbn h3
    rw [hg] at h3
    by_cases eb : b = y
    · subst eb; exact hcy
    · rw [if_neg eb] at h3; exact hb.conn b hbn h3
  · exact keep0 c hb.cc
  · intro b hbn
    rw [hg]
    split
    · omega
    · exact hb.low b hbn
  · intro x hx
    rcases List.mem_append.1 hx with h1 | h1
    · exact ⟨(h.1 x h1).1, keep0 x (h.1 x h1).2⟩
    · simp at h1
      subst h1
      exact ⟨hl, by rw [hg, if_pos rfl]⟩
  · intro t ht
    rcases Nat.lt_or_ge t s with ht2 | ht2
    · exact keep0 _ (h.2.2.2.1 t ht2)
    · have : t = s := by omega
      subst this
      rw [hy, hg, if_pos rfl]
  · intro b hbn h3
    rw [hg] at h3
    by_cases eb : b = y
    · left; simp [eb]
    · rw [if_neg eb] at h3
      rcases h.2.2.2.2 b hbn h3 with h4 | h4 | h4
      · left; simp [h4]
      · right; left; exact h4
      · right; right
        intro v hv
        exact keep0 v (h4 v hv)
theorem fo_end {q : List Nat} {a : Nat} (h : Fo M S.length pl p q a 4) : Wh M S.length pl p q := by
  refine ⟨h.1, fun b hb h3 => ?_⟩
  rcases h.2.2.2.2 b hb h3 with h4 | h4 | h4
  · exact Or.inl h4
  · right
    subst h4
    intro v hv
    obtain ⟨t, ht, e⟩ := ed_of k hv
    rw [e]; exact h.2.2.2.1 t ht
  · exact Or.inr h4
theorem wh_end (hb : BF M S.length pl p c) (h : Wh M S.length pl p []) : PartO M S.length pl (p + 1) (c + 1) := by
  refine ⟨hb.len, ?_, ?_, ?_, ?_⟩
  · intro b hbn
    rcases hb.rng b hbn with q | q
    · exact Or.inl q
    · right; omega
  · intro a b hab h0
    have hl := hab.lt k.rg
    rcases hb.rng a hl.1 with q | ⟨q1, q2⟩
    · omega
    · rcases Int.lt_or_eq_of_le q2 with q3 | q3
      · exact hb.old a b hab h0 q3
      · rcases h.2 a hl.1 q3 with h4 | h4
        · simp at h4
        · rw [h4 b hab, q3]
  · intro q hq
    rcases Nat.lt_or_ge q p with hq2 | hq2
    · exact hb.root q hq2
    · have : q = p := by omega
      subst this
      exact ⟨c, hb.cn, hb.cc, hb.conn⟩
  · intro b hbc
    rcases Nat.lt_or_ge b c with h1 | h1
    · exact hb.low b h1
    · have : b = c := by omega
      subst this
      rw [hb.cc]; omega
end
end Go.Proofs.Ytcjaloddgilnpaa

namespace Go.Proofs.Ytcjaloddgilnpaa
set_option linter.unusedVariables false
open Go.RowKit

/-- v is a part of a block of the call's own, from block base on, that reads as the integers xs -/
def QI (e : TypeId) (base : Nat) (w : World) (v : Value) (xs : List Int) : Prop :=
  ∃ g o c cur, v = .slice (some ⟨g, o, none⟩) xs.length c ∧ base ≤ g ∧ w.heap[g]? = some (.cells cur e (0, 0)) ∧ xs.length ≤ c ∧ o + c ≤ cur.size ∧ ∀ k x, xs[k]? = some x → cur[o + k]? = some (.int .i64 x)

section
variable {e : TypeId} {base : Nat} {w w' : World} {v : Value} {xs : List Int}
theorem QI.one (w : World) (e : TypeId) (base : Nat) (hb : base ≤ w.heap.size) (x : Int) : QI e base (w.alloc (.cells #[.int .i64 x] e)) (.slice (some ⟨w.heap.size, 0, none⟩) 1 1) [x] := by
  refine ⟨w.heap.size, 0, 1, #[.int .i64 x], rfl, hb, heap_alloc_new w _, Nat.le_refl _, Nat.le_refl _, ?_⟩
  intro k y hk
  have hk0 : k = 0 := by have := (List.getElem?_eq_some_iff.1 hk).1; simp at this; exact this
  subst hk0
  simp at hk; subst hk; rfl
theorem QI.lt {g o n c : Nat} (h : QI e base w (.slice (some ⟨g, o, none⟩) n c) xs) : base ≤ g ∧ g < w.heap.size := by
  obtain ⟨g', o', c', cur, hv, hb, hg, _⟩ := h
  injection hv with h1 h2 h3
  injection h1 with h1
  injection h1 with h1
  subst h1
  refine ⟨hb, ?_⟩
  rcases Nat.lt_or_ge g w.heap.size with hlt | hge
  · exact hlt
  · rw [Array.getElem?_eq_none hge] at hg; cases hg
theorem QI.keep (h : QI e base w v xs) (hk : ∀ g o n c, v = .slice (some ⟨g, o, none⟩) n c → w'.heap[g]? = w.heap[g]?) : QI e base w' v xs := by
  obtain ⟨g, o, c, cur, hv, hb, hg, r⟩ := h
  exact ⟨g, o, c, cur, hv, hb, (hk g o _ c hv).trans hg, r⟩
theorem QI.alloc (h : QI e base w v xs) (ob : Obj) : QI e base (w.alloc ob) v xs := by
  obtain ⟨g, o, c, cur, hv, hb, hg, r⟩ := h
  refine ⟨g, o, c, cur, hv, hb, ?_, r⟩
  have hlt : g < w.heap.size := by
    rcases Nat.lt_or_ge g w.heap.size with hlt | hge
    · exact hlt
    · rw [Array.getElem?_eq_none hge] at hg; cases hg
  rw [Below.heap_alloc w ob g hlt]; exact hg
theorem QI.head {x : Int} (h : QI e base w v (x :: xs)) : ∃ g o c, v = .slice (some ⟨g, o, none⟩) (xs.length + 1) c ∧ xs.length + 1 ≤ c ∧ w.cell? ⟨g, o, none⟩ = some (.int .i64 x) := by
  obtain ⟨g, o, c, cur, hv, hb, hg, hc, hs, hx⟩ := h
  refine ⟨g, o, c, hv, hc, ?_⟩
  rw [cell_of_row w g o cur e (0, 0) hg]
  exact hx 0 x rfl
theorem QI.tail {x : Int} {g o n c : Nat} (h : QI e base w (.slice (some ⟨g, o, none⟩) n c) (x :: xs)) (A : Option Addr) (hA : A = some ⟨g, o, none⟩ ∧ c - 1 = 0 ∨ A = some ⟨g, o + 1, none⟩) : QI e base w (.slice A (n - 1) (c - 1)) xs := by
  obtain ⟨g', o', c', cur, hv, hb, hg, hc, hs, hx⟩ := h
  injection hv with h1 h2 h3
  injection h1 with h1
  injection h1 with h1 h4
  subst h1 h2 h3 h4
  simp only [List.length_cons] at hc ⊢
  rcases hA with ⟨rfl, hA⟩ | rfl
  · refine ⟨g, o, c - 1, cur, by simp, hb, hg, by omega, by omega, fun k y hk => ?_⟩
    have := (List.getElem?_eq_some_iff.1 hk).1; omega
  · refine ⟨g, o + 1, c - 1, cur, by simp, hb, hg, by omega, by omega, fun k y hk => ?_⟩
    have := hx (k + 1) y (by simpa using hk)
    rw [Nat.add_assoc, Nat.add_comm 1 k]; exact this

/-- the run of append(v, x) -/
theorem run_appQ {P : Program} {t ty : TypeId} {i : TypeInfo} (ht : P.underlying t = some (.slice e)) (hi : P.info? e = some i) (hz : i.zero = some (.int .i64 0)) (hs : i.size = 1) (hby : i.bytes = 8)
    (h : QI e base w v xs) {b : Nat} {x : Int} (hu : w.cell? ⟨b, 0, none⟩ = some (.int .i64 x)) (hlen : xs.length ≤ 1000000) (hbase : base ≤ w.heap.size) :
    ∃ v' w', (Builtin.append_ #[t, t] ty #[v, .slice (some ⟨b, 0, none⟩) 1 1]).run P w = .ok v' w' ∧ QI e base w' v' (xs ++ [x]) ∧ Below base w w' ∧
      (∀ k, k < w.heap.size → (∀ g o n c, v = .slice (some ⟨g, o, none⟩) n c → g ≠ k) → w'.heap[k]? = w.heap[k]?) ∧ w.heap.size ≤ w'.heap.size ∧
      (∀ g o n c, v' = .slice (some ⟨g, o, none⟩) n c → (∃ o n c, v = .slice (some ⟨g, o, none⟩) n c) ∨ w.heap.size ≤ g) := by
  obtain ⟨g, o, c, cur, rfl, hb, hg, hc, hsz, hx⟩ := h
  have hcells : ∀ j u, [Value.int .i64 x][j]? = some u → w.cell? ((⟨b, 0, none⟩ : Addr).add j) = some u := by
    intro j u hj
    have hj0 : j = 0 := by have := (List.getElem?_eq_some_iff.1 hj).1; simp at this; exact this
    subst hj0
    simp at hj; subst hj
    have : (⟨b, 0, none⟩ : Addr).add 0 = ⟨b, 0, none⟩ := by unfold Addr.add; split <;> simp_all
    rw [this]; exact hu
  have hlt : g < w.heap.size := by
    rcases Nat.lt_or_ge g w.heap.size with hlt | hge
    · exact hlt
    · rw [Array.getElem?_eq_none hge] at hg; cases hg
  have src : Src P i.size t (.slice (some ⟨b, 0, none⟩) 1 1) 1 [Value.int .i64 x] w := Src.ofSlice w ht _ 1 1 _ (by rw [hs]; rfl) hcells (by intro u hu; simp at hu; subst hu; rfl)
  by_cases hroom : xs.length + 1 ≤ c
  · have hin : o + xs.length < cur.size := by omega
    have hcell : w.cell? ⟨g, o + xs.length, none⟩ = some cur[o + xs.length] := by
      rw [cell_of_row w g _ cur e (0, 0) hg, Array.getElem?_eq_getElem hin]
    have hfr : w.frozen? ⟨g, o + xs.length, none⟩ = false := frozen_of_row w g _ cur e hg
    have hr := run_append_room_src (P := P) w t t ty e i ht hi g o xs.length c (.slice (some ⟨b, 0, none⟩) 1 1) 1 [Value.int .i64 x] src hroom
      (by intro j hj; simp at hj; subst hj; rw [hs, Nat.mul_one, Nat.add_zero, hcell]; rfl) (by intro j hj; simp at hj; subst hj; rw [hs, Nat.mul_one, Nat.add_zero]; exact hfr)
    rw [hs, Nat.mul_one] at hr
    have hset : w.setCells g (o + xs.length) [Value.int .i64 x] = w.setCell ⟨g, o + xs.length, none⟩ (.int .i64 x) := rfl
    rw [hset] at hr
    refine ⟨_, _, hr, ⟨g, o, c, cur.setIfInBounds (o + xs.length) (.int .i64 x), by simp, hb, ?_, by simp; omega, by simpa using hsz, ?_⟩, (Below.refl _ _).setCell (p := ⟨g, o + xs.length, none⟩) hb _, ?_, ?_, ?_⟩
    · rw [heap_setCell_same w g _ cur e _ hg]
    · intro k y hk
      rcases Nat.lt_or_ge k xs.length with hk1 | hk1
      · rw [List.getElem?_append_left hk1] at hk
        have := hx k y hk
        rw [Array.getElem?_setIfInBounds, if_neg (by omega)]; exact this
      · rw [List.getElem?_append_right hk1] at hk
        have hk0 : k - xs.length = 0 := by have := (List.getElem?_eq_some_iff.1 hk).1; simp at this; omega
        rw [hk0] at hk
        simp at hk; subst hk
        have : k = xs.length := by omega
        subst this
        rw [Array.getElem?_setIfInBounds, if_pos rfl]
        simp [hin]
    · intro k hk hne
      exact Below.heap_setCell w ⟨g, o + xs.length, none⟩ _ k (fun e => hne g o _ c rfl e.symm)
    · exact ((Below.refl base w).setCell (p := ⟨g, o + xs.length, none⟩) hb (.int .i64 x)).size
    · intro g' o' n' c' hv
      injection hv with h1
      injection h1 with h1
      injection h1 with h1
      subst h1
      exact Or.inl ⟨_, _, _, rfl⟩
  · have hold : ∀ j u, (xs.map (Value.int .i64))[j]? = some u → w.cell? ((⟨g, o, none⟩ : Addr).add j) = some u := by
      intro j u hj
      rw [List.getElem?_map] at hj
      cases hy : xs[j]? with
      | none => rw [hy] at hj; cases hj
      | some y =>
        rw [hy] at hj
        injection hj with hj
        have : (⟨g, o, none⟩ : Addr).add j = ⟨g, o + j, none⟩ := by unfold Addr.add; split <;> simp_all
        rw [this, ← hj, cell_of_row w g _ cur e (0, 0) hg]
        exact hx j y hy
    have hncap : Builtin.nextslicecap (xs.length + 1) c * i.bytes ≤ 281474976710656 := by
      have := nextslicecap_le (need := xs.length + 1) (old := c) (by omega)
      rw [hby]; omega
    have hr := run_append_grow (P := P) w t ty e i (.int .i64 0) ht hi hz ⟨g, o, none⟩ xs.length c (xs.map (Value.int .i64)) (by rw [hs]; simp) hold ⟨b, 0, none⟩ 1 1 [Value.int .i64 x] (by rw [hs]; rfl) hcells (by omega) (by omega) hncap
    have hge : xs.length + 1 ≤ grownCap w (xs.length + 1) c e := grownCap_ge w _ _ _
    refine ⟨_, _, hr, ⟨w.heap.size, 0, _, _, by simp; rfl, hbase, heap_alloc_new w.drew _, by simp; exact hge, ?_, ?_⟩, Below.alloc (a := w) (w := w.drew) (bdrewN (Below.refl _ _) 1) hbase _, ?_, ?_, ?_⟩
    · rw [Array.size_append, size_zeroCells]
      have : (Value.int .i64 0).cells.size = 1 := rfl
      rw [this]; simp; omega
    · intro k y hk
      have hk2 : k < xs.length + 1 := by have := (List.getElem?_eq_some_iff.1 hk).1; simpa using this
      rw [Nat.zero_add, Array.getElem?_append_left (by simp; omega)]
      have h3 : ((xs ++ [x]).map (Value.int .i64))[k]? = some (.int .i64 y) := by rw [List.getElem?_map, hk]; rfl
      rw [List.map_append] at h3
      simpa using h3
    · intro k hk hne
      exact Below.heap_alloc w.drew _ k hk
    · exact Nat.le_trans (Nat.le_succ _) (by simp [World.alloc])
    · intro g' o' n' c' hv
      injection hv with h1
      injection h1 with h1
      injection h1 with h1
      subst h1
      exact Or.inr (Nat.le_refl _)
end

section
variable {P : Program} {w : World} {e : TypeId} {base : Nat} {v : Value} {xs : List Int}
theorem wp_appQ {o : Oper} {a : Act} {K : Act → World → Prop} {Q : Exit → Act → World → Prop} (s x : Operand) (t : TypeId) (ho : o.op = .call { callee := .builtin .append, args := #[s, x], argTypes := #[t, t] })
    {i : TypeInfo} (ht : P.underlying t = some (.slice e)) (hi : P.info? e = some i) (hz : i.zero = some (.int .i64 0)) (hs : i.size = 1) (hby : i.bytes = 8)
    (hv : a.eval s = v) (h : QI e base w v xs) {b : Nat} {y : Int} (hx : a.eval x = .slice (some ⟨b, 0, none⟩) 1 1) (hu : w.cell? ⟨b, 0, none⟩ = some (.int .i64 y)) (hlen : xs.length ≤ 1000000) (hbase : base ≤ w.heap.size)
    (hK : ∀ v' w', QI e base w' v' (xs ++ [y]) → Below base w w' → (∀ k, k < w.heap.size → (∀ g o n c, v = .slice (some ⟨g, o, none⟩) n c → g ≠ k) → w'.heap[k]? = w.heap[k]?) → w.heap.size ≤ w'.heap.size →
      (∀ g o n c, v' = .slice (some ⟨g, o, none⟩) n c → (∃ o n c, v = .slice (some ⟨g, o, none⟩) n c) ∨ w.heap.size ≤ g) → K (a.put o.dst v') w') : o.wp P a w K Q := by
  obtain ⟨v', w', hrun, h1, h2, h3, h4, h5⟩ := run_appQ (P := P) (ty := o.type) ht hi hz hs hby h hu hlen hbase
  unfold Oper.wp execOp
  simp only [ho, resolve, invoke, builtin, Sem.run_bind, Sem.run_pure, Result.andThen_ok, List.map_toArray, List.map_cons, List.map_nil, hv, hx, hrun]
  exact hK v' w' h1 h2 h3 h4 h5
/-- in a plain region, behind 'at_builtin' -/
theorem wpList_appQ {ops : Array Oper} {rest : List Oper} {o : Oper} {a : Act} {Q : Exit → Act → World → Prop} (hgd : o.guard = none) (s x : Operand) (t : TypeId) (ho : o.op = .call { callee := .builtin .append, args := #[s, x], argTypes := #[t, t] })
    {i : TypeInfo} (ht : P.underlying t = some (.slice e)) (hi : P.info? e = some i) (hz : i.zero = some (.int .i64 0)) (hs : i.size = 1) (hby : i.bytes = 8)
    (hv : a.eval s = v) (h : QI e base w v xs) {b : Nat} {y : Int} (hx : a.eval x = .slice (some ⟨b, 0, none⟩) 1 1) (hu : w.cell? ⟨b, 0, none⟩ = some (.int .i64 y)) (hlen : xs.length ≤ 1000000) (hbase : base ≤ w.heap.size)
    (hK : ∀ v' w', QI e base w' v' (xs ++ [y]) → Below base w w' → (∀ k, k < w.heap.size → (∀ g o n c, v = .slice (some ⟨g, o, none⟩) n c → g ≠ k) → w'.heap[k]? = w.heap[k]?) → w.heap.size ≤ w'.heap.size →
      (∀ g o n c, v' = .slice (some ⟨g, o, none⟩) n c → (∃ o n c, v = .slice (some ⟨g, o, none⟩) n c) ∨ w.heap.size ≤ g) → wpList P ops Q rest (a.put o.dst v') w') : wpList P ops Q (o :: rest) a w :=
  wpList_plain hgd fun _ hk => wp_appQ s x t ho ht hi hz hs hby hv h hx hu hlen hbase fun v' w' h1 h2 h3 h4 h5 => hk _ _ (hK v' w' h1 h2 h3 h4 h5)
end
end Go.Proofs.Ytcjaloddgilnpaa
