/- When a diagram is valid: plain. -/
/- The numbers of the arcs: plain. -/
/- Union and find: plain. -/
/- Strands of a diagram: each one has an arc of its own (plain). -/
import Derived.Test.YtlbihllmpbhhcaaDoorZArp
import Derived.Test.YtlbihllmpbhhcaaDoorZFce
namespace Go.Proofs.YtlbihllmpbhhcaaDoor
set_option linter.unusedVariables false
open Go.RowKit

def sgB (s : Int) : Bool := s == 1 || s == -1
/-- the tests at a half-edge -/
def mtB (S M : List Int) (h : Nat) : Bool :=
  decide (0 ≤ M[h]?.getD 0) && (decide (M[h]?.getD 0 < ((4 * S.length : Nat) : Int)) && (decide (M[h]?.getD 0 ≠ (h : Int)) && (decide (M[mt M h]?.getD 0 = (h : Int)) && (outB S h != outB S (mt M h)))))
def okB (S M : List Int) (L : Int) : Bool :=
  decide (S.length ≤ 64) && (decide (M.length = 4 * S.length) && (decide (0 ≤ L) && (decide (L ≤ 64) && (S.all sgB && (List.range M.length).all (mtB S M)))))
/-- how many crossings, and how many faces, bear the label c -/
def crN (l : List Nat) (c m : Nat) : Nat := (List.range m).countP fun b => gn l b == c
def fcN (l : List Nat) (c : Nat) (hs : List Nat) : Nat := hs.countP fun h => gn l (h / 4) == c
def spB (M : List Int) (l : List Nat) (c : Nat) : Bool := gn l c != c || fcN l c (hdU (phi M) M.length M.length) == crN l c l.length + 2
def sphR (M : List Int) (n : Nat) : Bool := (List.range n).all (spB M (labK M n n))
def valB (S M : List Int) (L : Int) : Bool := okB S M L && sphR M S.length

theorem crN_succ (l : List Nat) (c m : Nat) : crN l c (m + 1) = crN l c m + (if gn l m = c then 1 else 0) := by
  unfold crN; rw [List.range_succ, List.countP_append, List.countP_singleton]; simp
theorem crN_le (l : List Nat) (c m : Nat) : crN l c m ≤ m := by
  have := List.countP_le_length (p := fun b => gn l b == c) (l := List.range m); simpa [crN] using this
theorem fcN_succ (l : List Nat) (c : Nat) (hs : List Nat) (i : Nat) (hi : i < hs.length) : fcN l c (hs.take (i + 1)) = fcN l c (hs.take i) + (if gn l (hs[i] / 4) = c then 1 else 0) := by
  unfold fcN
  rw [List.take_add_one, List.getElem?_eq_getElem hi, List.countP_append, Option.toList_some, List.countP_singleton]; simp
theorem fcN_le (l : List Nat) (c : Nat) (hs : List Nat) (i : Nat) : fcN l c (hs.take i) ≤ i := by
  have := List.countP_le_length (p := fun h => gn l (h / 4) == c) (l := hs.take i)
  rw [List.length_take] at this
  unfold fcN; omega
theorem hdU_mem {f : Nat → Nat} {n k x : Nat} (h : x ∈ hdU f n k) : x < k := by
  unfold hdU at h; exact List.mem_range.1 (List.mem_filter.1 h).1
theorem sph_bad {M : List Int} {n c : Nat} (hc : c < n) (h : spB M (labK M n n) c = false) : sphR M n = false := by
  rw [Bool.eq_false_iff]
  intro e
  have := List.all_eq_true.1 e c (List.mem_range.2 hc)
  rw [h] at this; cases this
theorem sph_good {M : List Int} {n : Nat} (h : ∀ c, c < n → spB M (labK M n n) c = true) : sphR M n = true :=
  List.all_eq_true.2 fun c hc => h c (List.mem_range.1 hc)

structure Ok (S M : List Int) (L : Int) : Prop where
  n : S.length ≤ 64
  m : M.length = 4 * S.length
  l0 : 0 ≤ L
  l1 : L ≤ 64
  sg : ∀ i (h : i < S.length), S[i] = 1 ∨ S[i] = -1
  pos : ∀ h (hh : h < M.length), 0 ≤ M[h]
  lt : ∀ h, h < M.length → mt M h < M.length
  ne : ∀ h, h < M.length → mt M h ≠ h
  inv : ∀ h, h < M.length → mt M (mt M h) = h
  out : ∀ h, h < M.length → outB S h ≠ outB S (mt M h)
theorem getD_lt {M : List Int} {h : Nat} (hh : h < M.length) : M[h]?.getD 0 = M[h] := by rw [List.getElem?_eq_getElem hh]; rfl
theorem ok_of {S M : List Int} {L : Int} (h : okB S M L = true) : Ok S M L := by
  unfold okB at h
  simp only [Bool.and_eq_true, decide_eq_true_eq, List.all_eq_true, List.mem_range] at h
  obtain ⟨h1, h2, h3, h4, h5, h6⟩ := h
  have h7 : ∀ x, x < M.length → 0 ≤ M[x]?.getD 0 ∧ M[x]?.getD 0 < ((4 * S.length : Nat) : Int) ∧ M[x]?.getD 0 ≠ (x : Int) ∧ M[mt M x]?.getD 0 = (x : Int) ∧ outB S x ≠ outB S (mt M x) := by
    intro x hx
    have := h6 x hx
    unfold mtB at this
    simpa [Bool.and_eq_true] using this
  have hlt : ∀ x, x < M.length → mt M x < M.length := by
    intro x hx
    have := h7 x hx
    unfold mt
    omega
  refine ⟨h1, h2, h3, h4, ?_, ?_, hlt, ?_, ?_, ?_⟩
  · intro i hi
    have := h5 S[i] (List.getElem_mem hi)
    simpa [sgB] using this
  · intro x hx
    have := (h7 x hx).1
    rw [getD_lt hx] at this; exact this
  · intro x hx e
    have := h7 x hx
    unfold mt at e
    omega
  · intro x hx
    have h8 := (h7 x hx).2.2.2.1
    have : mt M (mt M x) = (M[mt M x]?.getD 0).toNat := rfl
    rw [this, h8]; omega
  · intro x hx; exact (h7 x hx).2.2.2.2
section
variable {S M : List Int} {L : Int} (k : Ok S M L)
include k
theorem Ok.rg : Rg M S.length := ⟨k.m, fun h hh => by have := k.lt h (by rw [k.m]; exact hh); rw [k.m] at this; exact this⟩
theorem Ok.rh : Rh M M.length := ⟨by rw [k.m]; omega, k.lt⟩
theorem Ok.perm : PermF M.length (phi M) := by
  have hl : ∀ h, h < M.length → phi M h < M.length := by
    intro h hh
    have h1 := k.lt h hh
    have h2 := k.m
    unfold phi turnN
    omega
  have hj : ∀ a b, a < M.length → b < M.length → phi M a = phi M b → a = b := by
    intro a b ha hb e
    have e1 : mt M a = mt M b := by
      unfold phi turnN at e
      omega
    have h3 := k.inv a ha
    have h4 := k.inv b hb
    rw [← h3, e1, h4]
  constructor <;> first | exact hl | exact hj
end
end Go.Proofs.YtlbihllmpbhhcaaDoor

namespace Go.Proofs.YtlbihllmpbhhcaaDoor
set_option linter.unusedVariables false

/-- how many of the first m are their own label -/
def rk (l : List Nat) : Nat → Nat
  | 0 => 0
  | m + 1 => if gn l m = m then rk l m + 1 else rk l m
theorem rk_le (l : List Nat) : ∀ m, rk l m ≤ m
  | 0 => Nat.le_refl _
  | m + 1 => by have := rk_le l m; rw [rk]; split <;> omega
/-- the numbers of the first k half-edges, then zeros -/
def numA (l : List Nat) (n k : Nat) : List Nat := (List.range n).map fun i => if i < k then rk l (gn l i) else 0
theorem numA_length (l : List Nat) (n k : Nat) : (numA l n k).length = n := by simp [numA]
theorem gn_numA {l : List Nat} {n k i : Nat} (hi : i < n) : gn (numA l n k) i = if i < k then rk l (gn l i) else 0 := by
  unfold gn numA; rw [List.getElem?_map, List.getElem?_range hi]; rfl
theorem numA_step {l : List Nat} {n k : Nat} (h : k < n) : (numA l n k).set k (rk l (gn l k)) = numA l n (k + 1) := by
  apply List.ext_getElem?
  intro i
  unfold numA
  rw [List.getElem?_set]
  by_cases e : k = i
  · subst e; simp [h]
  · by_cases hi : i < n
    · simp [e, hi]
      by_cases h1 : i < k
      · rw [if_pos h1, if_pos (by omega)]
      · rw [if_neg h1, if_neg (by omega)]
    · simp [e, hi]
/-- where the label is another one, its number is there already -/
theorem numA_old {l : List Nat} {n k : Nat} (h : k < n) (h1 : gn l k < k) (h2 : gn l (gn l k) = gn l k) : gn (numA l n k) (gn l k) = rk l (gn l k) := by
  rw [gn_numA (by omega), if_pos h1, h2]
end Go.Proofs.YtlbihllmpbhhcaaDoor

namespace Go.Proofs.YtlbihllmpbhhcaaDoor
set_option linter.unusedVariables false

/-- from x the root r is reached in n steps -/
def Dp (P : List Nat) : Nat → Nat → Nat → Prop
  | 0, x, r => gn P x = x ∧ r = x
  | n + 1, x, r => gn P x ≠ x ∧ Dp P n (gn P x) r
theorem Dp.root {P : List Nat} : ∀ {n x r : Nat}, Dp P n x r → gn P r = r
  | 0, _, _, h => by obtain ⟨h1, rfl⟩ := h; exact h1
  | _ + 1, _, _, h => Dp.root h.2
theorem Dp.uniq {P : List Nat} : ∀ {n m x r s : Nat}, Dp P n x r → Dp P m x s → n = m ∧ r = s
  | 0, 0, _, _, _, h, k => ⟨rfl, h.2.trans k.2.symm⟩
  | 0, _ + 1, _, _, _, h, k => absurd h.1 k.1
  | _ + 1, 0, _, _, _, h, k => absurd k.1 h.1
  | _ + 1, _ + 1, _, _, _, h, k => by obtain ⟨h1, h2⟩ := Dp.uniq h.2 k.2; exact ⟨by omega, h2⟩
theorem Dp.lt {P : List Nat} {N : Nat} (hP : ∀ x, x < N → gn P x < N) : ∀ {n x r : Nat}, Dp P n x r → x < N → r < N
  | 0, _, _, h, hx => by rw [h.2]; exact hx
  | _ + 1, _, _, h, hx => Dp.lt hP h.2 (hP _ hx)
theorem Dp.ne {P : List Nat} {n x r : Nat} (h : Dp P n x r) (hx : gn P x ≠ x) : r ≠ x := fun e => by have := h.root; rw [e] at this; exact hx this

/-- the roots are kept -/
structure Kp (P P' : List Nat) : Prop where
  len : P'.length = P.length
  dp : ∀ x m r, Dp P m x r → ∃ m', Dp P' m' x r
  lt : ∀ N, (∀ x, x < N → gn P x < N) → ∀ x, x < N → gn P' x < N
theorem Kp.refl (P : List Nat) : Kp P P := ⟨rfl, fun _ m _ h => ⟨m, h⟩, fun _ h => h⟩
theorem Kp.trans {P Q R : List Nat} (h : Kp P Q) (k : Kp Q R) : Kp P R :=
  ⟨k.len.trans h.len, fun x m r hd => by obtain ⟨m', h'⟩ := h.dp x m r hd; exact k.dp x m' r h', fun N hN => k.lt N (h.lt N hN)⟩
/-- an element is made to point at its root -/
theorem Kp.short {P : List Nat} {n x r : Nat} (hx : x < P.length) (h : Dp P n x r) (hne : gn P x ≠ x) : Kp P (P.set x r) := by
  have hg := fun c => gn_set P x r c hx
  have hrx : r ≠ x := h.ne hne
  refine ⟨by simp, ?_, ?_⟩
  · intro y m
    induction m generalizing y with
    | zero =>
      intro s hd
      refine ⟨0, ?_, hd.2⟩
      rw [hg]
      by_cases e : y = x
      · subst e; exact absurd hd.1 hne
      · rw [if_neg e]; exact hd.1
    | succ m ih =>
      intro s hd
      by_cases e : y = x
      · subst e
        have hs := (Dp.uniq h hd).2
        subst hs
        have e1 : gn (P.set y r) y = r := by rw [hg, if_pos rfl]
        have e2 : gn (P.set y r) r = r := by rw [hg, if_neg hrx]; exact h.root
        exact ⟨1, by rw [e1]; exact hrx, by rw [e1]; exact e2, by rw [e1]⟩
      · obtain ⟨m', h'⟩ := ih _ s hd.2
        refine ⟨m' + 1, ?_, ?_⟩
        · rw [hg, if_neg e]; exact hd.1
        · rw [hg, if_neg e]; exact h'
  · intro N hN y hy
    rw [hg]
    split
    · rename_i e; subst e; exact h.lt hN hy
    · exact hN y hy
/-- find: the root is found, the roots are kept, and elements that lie deeper stay as they are -/
structure Fnd (P P' : List Nat) (n : Nat) : Prop where
  kp : Kp P P'
  deep : ∀ y, (∀ m s, Dp P m y s → n < m) → gn P' y = gn P y
theorem Fnd.refl (P : List Nat) : Fnd P P 0 := ⟨Kp.refl P, fun _ _ => rfl⟩
theorem Fnd.stays {P P' : List Nat} {n x r : Nat} (h : Fnd P P' n) (hne : gn P x ≠ x) (hd : Dp P n (gn P x) r) : gn P' x = gn P x :=
  h.deep x fun m s hm => by have := (Dp.uniq (show Dp P (n + 1) x r from ⟨hne, hd⟩) hm).1; omega
theorem Fnd.step {P P' : List Nat} {n x r : Nat} (hx : x < P.length) (h : Fnd P P' n) (hne : gn P x ≠ x) (hd : Dp P n (gn P x) r) : Fnd P (P'.set x r) (n + 1) := by
  have h1 : Dp P (n + 1) x r := ⟨hne, hd⟩
  obtain ⟨m', h2⟩ := h.kp.dp x _ r h1
  have h3 : gn P' x ≠ x := by rw [h.stays hne hd]; exact hne
  refine ⟨h.kp.trans (Kp.short (by rw [h.kp.len]; exact hx) h2 h3), fun y hy => ?_⟩
  have hyx : y ≠ x := fun e => by subst e; have := hy _ _ h1; omega
  rw [gn_set _ _ _ _ (by rw [h.kp.len]; exact hx), if_neg hyx]
  exact h.deep y fun m s hm => by have := hy m s hm; omega

/-- every element has a root -/
structure Fst (N : Nat) (P : List Nat) : Prop where
  len : P.length = N
  lt : ∀ x, x < N → gn P x < N
  ex : ∀ x, x < N → ∃ n r, Dp P n x r
theorem Fst.keep {N : Nat} {P P' : List Nat} (h : Fst N P) (k : Kp P P') : Fst N P' :=
  ⟨k.len.trans h.len, k.lt N h.lt, fun x hx => by obtain ⟨n, r, hd⟩ := h.ex x hx; obtain ⟨m, h'⟩ := k.dp x n r hd; exact ⟨m, r, h'⟩⟩
/-- the same root -/
def Sm (P : List Nat) (x y : Nat) : Prop := ∃ m m' r, Dp P m x r ∧ Dp P m' y r
theorem Sm.keep {P P' : List Nat} {x y : Nat} (h : Sm P x y) (k : Kp P P') : Sm P' x y := by
  obtain ⟨m, m', r, h1, h2⟩ := h
  obtain ⟨a, h3⟩ := k.dp _ _ _ h1
  obtain ⟨b, h4⟩ := k.dp _ _ _ h2
  exact ⟨a, b, r, h3, h4⟩
theorem Sm.symm {P : List Nat} {x y : Nat} (h : Sm P x y) : Sm P y x := by obtain ⟨m, m', r, h1, h2⟩ := h; exact ⟨m', m, r, h2, h1⟩
theorem Sm.trans {P : List Nat} {x y z : Nat} (h : Sm P x y) (k : Sm P y z) : Sm P x z := by
  obtain ⟨m, m', r, h1, h2⟩ := h
  obtain ⟨n, n', s, h3, h4⟩ := k
  have := (Dp.uniq h2 h3).2
  subst this
  exact ⟨m, n', r, h1, h4⟩
/-- two roots are joined -/
theorem join_dp {P : List Nat} {a b : Nat} (ha : a < P.length) (hb : gn P b = b) (hab : a ≠ b) : ∀ {m y s : Nat}, Dp P m y s → gn P a = a → ∃ m', Dp (P.set a b) m' y (if s = a then b else s) := by
  have hg := fun c => gn_set P a b c ha
  intro m
  induction m with
  | zero =>
    intro y s hd haa
    obtain ⟨h1, rfl⟩ := hd
    by_cases e : s = a
    · subst e
      rw [if_pos rfl]
      have e1 : gn (P.set s b) s = b := by rw [hg, if_pos rfl]
      have e2 : gn (P.set s b) b = b := by rw [hg, if_neg (Ne.symm hab)]; exact hb
      exact ⟨1, by rw [e1]; exact Ne.symm hab, by rw [e1]; exact e2, by rw [e1]⟩
    · rw [if_neg e]
      exact ⟨0, by rw [hg, if_neg e]; exact h1, rfl⟩
  | succ m ih =>
    intro y s hd haa
    have e : y ≠ a := fun e => by subst e; exact hd.1 haa
    obtain ⟨m', h'⟩ := ih hd.2 haa
    exact ⟨m' + 1, by rw [hg, if_neg e]; exact hd.1, by rw [hg, if_neg e]; exact h'⟩
/-- the state of the joining: a forest whose trees lie inside the classes of E -/
structure UF (E : Nat → Nat → Prop) (N : Nat) (P : List Nat) : Prop where
  fst : Fst N P
  snd : ∀ x m r, x < N → Dp P m x r → Conn E x r
theorem UF.keep {E : Nat → Nat → Prop} {N : Nat} {P P' : List Nat} (h : UF E N P) (k : Kp P P') : UF E N P' := by
  refine ⟨h.fst.keep k, fun x m r hx hd => ?_⟩
  obtain ⟨n, s, h1⟩ := h.fst.ex x hx
  obtain ⟨n', h2⟩ := k.dp x n s h1
  have := (Dp.uniq h2 hd).2
  subst this
  exact h.snd x n s hx h1
theorem join_any {E : Nat → Nat → Prop} {N : Nat} {P : List Nat} {a b u v m m' : Nat} (h : UF E N P) (hE : ∀ x y, E x y → E y x) (hu : u < N) (hv : v < N) (he : Conn E u v) (h1 : Dp P m u a) (h2 : Dp P m' v b) :
    UF E N (P.set a b) ∧ Sm (P.set a b) u v ∧ ∀ x y, Sm P x y → Sm (P.set a b) x y := by
  have haN := h1.lt h.fst.lt hu
  have hbN := h2.lt h.fst.lt hv
  have ha : a < P.length := by rw [h.fst.len]; exact haN
  by_cases hab : a = b
  · subst hab
    have hs : P.set a a = P := by
      apply List.ext_getElem?
      intro i
      rw [List.getElem?_set]
      by_cases e : a = i
      · subst e
        have := h1.root
        unfold gn at this
        rw [List.getElem?_eq_getElem ha] at this ⊢
        simp at this ⊢
        simp [ha, this]
      · simp [e]
    rw [hs]
    exact ⟨h, ⟨m, m', a, h1, h2⟩, fun _ _ k => k⟩
  · have hj := fun {m y s : Nat} (hd : Dp P m y s) => join_dp ha h2.root hab hd h1.root
    have hsm : ∀ x y, Sm P x y → Sm (P.set a b) x y := by
      rintro x y ⟨n, n', r, h3, h4⟩
      obtain ⟨p, h5⟩ := hj h3
      obtain ⟨q, h6⟩ := hj h4
      exact ⟨p, q, _, h5, h6⟩
    have hself : Sm (P.set a b) u v := by
      obtain ⟨p, h5⟩ := hj h1
      obtain ⟨q, h6⟩ := hj h2
      rw [if_pos rfl] at h5
      rw [if_neg (Ne.symm hab)] at h6
      exact ⟨p, q, b, h5, h6⟩
    refine ⟨⟨⟨by rw [List.length_set]; exact h.fst.len, ?_, ?_⟩, ?_⟩, hself, hsm⟩
    · intro x hx
      rw [gn_set _ _ _ _ ha]
      split
      · exact hbN
      · exact h.fst.lt x hx
    · intro x hx
      obtain ⟨n, r, hd⟩ := h.fst.ex x hx
      obtain ⟨p, h5⟩ := hj hd
      exact ⟨p, _, h5⟩
    · intro x n r hx hd
      obtain ⟨p, s, h5⟩ := h.fst.ex x hx
      obtain ⟨q, h6⟩ := hj h5
      have hr := (Dp.uniq h6 hd).2
      have hxs := h.snd x p s hx h5
      by_cases e : s = a
      · rw [if_pos e] at hr
        subst e hr
        have h7 := h.snd u m s hu h1
        have h8 := h.snd v m' b hv h2
        exact hxs.trans ((h7.symm hE).trans (he.trans h8))
      · rw [if_neg e] at hr
        subst hr; exact hxs
/-- at the beginning each element is its own root -/
theorem uf_start (E : Nat → Nat → Prop) (N : Nat) : UF E N (List.range N) := by
  have hg : ∀ x, x < N → gn (List.range N) x = x := fun x hx => by unfold gn; rw [List.getElem?_range hx]; rfl
  refine ⟨⟨by simp, fun x hx => by rw [hg x hx]; exact hx, fun x hx => ⟨0, x, hg x hx, rfl⟩⟩, fun x m r hx hd => ?_⟩
  have := (Dp.uniq (show Dp (List.range N) 0 x x from ⟨hg x hx, rfl⟩) hd).2
  subst this; exact .refl _

/- the arcs -/
section
variable {S M : List Int} {L : Int} (k : Ok S M L)
include k
theorem sees_symm (a b : Nat) (h : Sees M M.length a b) : Sees M M.length b a := by
  obtain ⟨hb, rfl | ⟨h1, rfl⟩⟩ := h
  · exact ⟨k.lt b hb, Or.inl (k.inv b hb).symm⟩
  · refine ⟨opp_lt k.rh hb, Or.inr ⟨by unfold opp; omega, by unfold opp; omega⟩⟩
theorem sees_mate {h : Nat} (hh : h < M.length) : Conn (Sees M M.length) h (mt M h) := .one ⟨k.lt h hh, Or.inl (k.inv h hh).symm⟩
theorem sees_over {c : Nat} (hc : c < S.length) : Conn (Sees M M.length) (4 * c + 1) (4 * c + 3) := .one ⟨by rw [k.m]; omega, Or.inr ⟨by omega, by unfold opp; omega⟩⟩
theorem uf_conn {P : List Nat} (h : UF (Sees M M.length) M.length P) (h1 : ∀ x, x < M.length → Sm P x (mt M x)) (h2 : ∀ c, c < S.length → Sm P (4 * c + 1) (4 * c + 3)) {x y : Nat} (hx : x < M.length) (hy : y < M.length) : Sm P x y ↔ Conn (Sees M M.length) x y := by
  constructor
  · rintro ⟨m, m', r, d1, d2⟩
    exact (h.snd x m r hx d1).trans ((h.snd y m' r hy d2).symm (sees_symm k))
  · intro hc
    have := Conn.closed (P := fun z => z < M.length ∧ Sm P x z) ?_ hc ⟨hx, by obtain ⟨n, r, hd⟩ := h.fst.ex x hx; exact ⟨n, n, r, hd, hd⟩⟩
    · exact this.2
    · intro u v huv ⟨hu, hs⟩
      obtain ⟨hv, e | ⟨ho, e⟩⟩ := huv
      · subst e
        exact ⟨hv, hs.trans (h1 v hv).symm⟩
      · refine ⟨hv, hs.trans ?_⟩
        have hc4 : v / 4 < S.length := by have := k.m; omega
        rcases (by omega : v % 4 = 1 ∨ v % 4 = 3) with q | q
        · have e1 : v = 4 * (v / 4) + 1 := by omega
          have e2 : u = 4 * (v / 4) + 3 := by rw [e]; unfold opp; omega
          rw [e2, show Sm P (4 * (v / 4) + 3) v = Sm P (4 * (v / 4) + 3) (4 * (v / 4) + 1) by rw [← e1]]
          exact (h2 _ hc4).symm
        · have e1 : v = 4 * (v / 4) + 3 := by omega
          have e2 : u = 4 * (v / 4) + 1 := by rw [e]; unfold opp; omega
          rw [e2, show Sm P (4 * (v / 4) + 1) v = Sm P (4 * (v / 4) + 1) (4 * (v / 4) + 3) by rw [← e1]]
          exact h2 _ hc4
/-- the label of the reference: the least of the class -/
theorem la_lt {x y : Nat} (hy : y < M.length) (h : Conn (Sees M M.length) x y) : x < M.length := by
  have := Conn.closed (P := fun z => z < M.length) (fun u v e _ => ((sees_symm k _ _ e).lt k.rh).1) (h.symm (sees_symm k)) hy
  exact this
theorem la_eq {x y : Nat} (hx : x < M.length) (hy : y < M.length) : gn (labA M M.length M.length) x = gn (labA M M.length M.length) y ↔ Conn (Sees M M.length) x y := by
  have cx := labA_conn k.rh M.length x hx
  have cy := labA_conn k.rh M.length y hy
  have sy := fun {a b : Nat} (h : Conn (Sees M M.length) a b) => h.symm (sees_symm k)
  constructor
  · intro e
    rw [e] at cx
    exact (sy cx).trans cy
  · intro h
    apply Nat.le_antisymm
    · exact labA_least k.rh (la_lt k hy cy) (cy.trans (sy h))
    · exact labA_least k.rh (la_lt k hx cx) (cx.trans h)
theorem la_le {x : Nat} (hx : x < M.length) : gn (labA M M.length M.length) x ≤ x := labA_least k.rh hx (.refl _)
theorem la_self {x : Nat} (hx : x < M.length) : gn (labA M M.length M.length) (gn (labA M M.length M.length) x) = gn (labA M M.length M.length) x :=
  (la_eq k (la_lt k hx (labA_conn k.rh M.length x hx)) hx).2 (labA_conn k.rh M.length x hx)
end
end Go.Proofs.YtlbihllmpbhhcaaDoor

namespace Go.Proofs.YtlbihllmpbhhcaaDoor
set_option linter.unusedVariables false

theorem rk_filter (l : List Nat) : ∀ m, rk l m = ((List.range m).filter fun i => gn l i == i).length
  | 0 => rfl
  | m + 1 => by
    rw [rk, List.range_succ, List.filter_append, List.length_append, rk_filter l m]
    by_cases h : gn l m = m
    · rw [if_pos h]; simp [h]
    · rw [if_neg h]; simp [h]
theorem opp_opp (h : Nat) : opp (opp h) = h := by unfold opp; omega
/-- the next half-edge of a strand -/
def nxt (M : List Int) (h : Nat) : Nat := opp (mt M h)
/-- the outgoing half-edge of an edge -/
def outE (S M : List Int) (h : Nat) : Nat := if outB S h = true then h else mt M h
section
variable {S M : List Int} {L : Int} (k : Ok S M L)
include k
theorem Ok.opp_lt {h : Nat} (hh : h < M.length) : opp h < M.length := by have := k.m; unfold opp; omega
theorem Ok.nxt_lt {h : Nat} (hh : h < M.length) : nxt M h < M.length := k.opp_lt (k.lt h hh)
theorem Ok.nxt_perm : PermF M.length (nxt M) := by
  have hl : ∀ h, h < M.length → nxt M h < M.length := fun h hh => k.nxt_lt hh
  have hj : ∀ a b, a < M.length → b < M.length → nxt M a = nxt M b → a = b := by
    intro a b ha hb e
    have e1 : mt M a = mt M b := by
      have := congrArg opp e
      unfold nxt at this
      rwa [opp_opp, opp_opp] at this
    rw [← k.inv a ha, e1, k.inv b hb]
  constructor <;> first | exact hl | exact hj
theorem Ok.out_opp {h : Nat} (hh : h < M.length) : outB S (opp h) ≠ outB S h := by
  have hc : h / 4 < S.length := by have := k.m; omega
  have h4 : opp h / 4 = h / 4 := by unfold opp; omega
  have hs := k.sg (h / 4) hc
  have hg : S[h / 4]?.getD 0 = S[h / 4] := by rw [List.getElem?_eq_getElem hc]; rfl
  unfold outB
  rw [h4, hg]
  rcases (by omega : h % 4 = 0 ∨ h % 4 = 1 ∨ h % 4 = 2 ∨ h % 4 = 3) with q | q | q | q
  · have q2 : opp h % 4 = 2 := by unfold opp; omega
    rw [q, q2]; simp
  · have q2 : opp h % 4 = 3 := by unfold opp; omega
    rw [q, q2]
    rcases hs with e | e <;> rw [e] <;> decide
  · have q2 : opp h % 4 = 0 := by unfold opp; omega
    rw [q, q2]; simp
  · have q2 : opp h % 4 = 1 := by unfold opp; omega
    rw [q, q2]
    rcases hs with e | e <;> rw [e] <;> decide
theorem Ok.out_nxt {h : Nat} (hh : h < M.length) : outB S (nxt M h) = outB S h := by
  have h1 := k.out h hh
  have h2 := k.out_opp (k.lt h hh)
  unfold nxt
  cases e1 : outB S h <;> cases e2 : outB S (mt M h) <;> cases e3 : outB S (opp (mt M h)) <;> rw [e1, e2] at h1 <;> rw [e2, e3] at h2 <;> first | rfl | exact absurd rfl h1 | exact absurd rfl h2
theorem Ok.rl_sees {a b : Nat} (h : Sees M M.length a b) : Rl (nxt M) (outE S M a) (outE S M b) := by
  obtain ⟨hb, h⟩ := h
  rcases h with rfl | ⟨_, rfl⟩
  · have h1 := k.out b hb
    unfold outE
    cases e1 : outB S b <;> cases e2 : outB S (mt M b) <;> rw [e1, e2] at h1
    · exact absurd rfl h1
    · exact Rl.refl _ _
    · rw [if_neg (by simp), if_pos rfl, k.inv b hb]; exact Rl.refl _ _
    · exact absurd rfl h1
  · have h1 := k.out_opp hb
    have ho := k.opp_lt hb
    unfold outE
    cases e1 : outB S b <;> cases e2 : outB S (opp b) <;> rw [e1, e2] at h1
    · exact absurd rfl h1
    · rw [if_pos rfl, if_neg (by simp)]
      refine k.nxt_perm.symm (k.lt b hb) ⟨1, ?_⟩
      show opp (mt M (mt M b)) = opp b
      rw [k.inv b hb]
    · rw [if_neg (by simp), if_pos rfl]
      refine ⟨1, ?_⟩
      show opp (mt M (mt M (opp b))) = b
      rw [k.inv _ ho, opp_opp]
    · exact absurd rfl h1
theorem Ok.rl_conn {a b : Nat} (h : Conn (Sees M M.length) a b) : Rl (nxt M) (outE S M a) (outE S M b) := by
  induction h with
  | refl => exact Rl.refl _ _
  | step h1 h2 ih => exact ih.trans (k.rl_sees h2)
/-- half-edges of different strands have different arcs -/
theorem Ok.strands_le {hs : List Nat} (hn : hs.Nodup) (hl : ∀ h ∈ hs, h < M.length ∧ outB S h = true) (hp : ∀ a ∈ hs, ∀ b ∈ hs, Rl (nxt M) a b → a = b) : hs.length ≤ rk (labA M M.length M.length) M.length := by
  have e9 : (hs.map (gn (labA M M.length M.length))).length = hs.length := by simp
  rw [rk_filter, ← e9]
  refine len_sub _ _ (nodup_map hn fun a ha b hb e => ?_) fun x hx => ?_
  · have h1 := k.rl_conn ((la_eq k (hl a ha).1 (hl b hb).1).1 e)
    unfold outE at h1
    rw [if_pos (hl a ha).2, if_pos (hl b hb).2] at h1
    exact hp a ha b hb h1
  · obtain ⟨a, ha, rfl⟩ := List.mem_map.1 hx
    have h1 := la_le k (hl a ha).1
    have h2 := (hl a ha).1
    rw [List.mem_filter, List.mem_range]
    exact ⟨by omega, by rw [la_self k h2]; simp⟩
end
end Go.Proofs.YtlbihllmpbhhcaaDoor
