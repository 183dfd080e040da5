/- package unknot: what a run of the search has found (plain). -/
/- slices.Reverse at a list of slices. -/
/- slices.Concat of lists of moves. -/
/- package unknot: search.path. -/
import Derived.Test.YteliflcbegcdlaaGreatDoorZExs
import Derived.Test.YteliflcbegcdlaaGreatDoorZSmp
import Derived.BigRegion
import Derived.Test.YteliflcbegcdlaaGreatDoorZSlb
import Derived.Lib.AppendZerosOnto
namespace Go.Proofs.YteliflcbegcdlaaGreatDoor
open Go.RowKit
set_option linter.unusedVariables false
/-- the moves ms lead from a grid to a grid -/
def Pls (g : Gd) (ms : List Mv) (z : Gd) : Prop := (∀ i, playFrom i g.1 g.2 ms = (0, z.1, z.2, -1)) ∧ ∀ m ∈ ms, m.k ≠ 4
theorem Pls.nil (g : Gd) : Pls g [] g := ⟨fun i => rfl, by simp⟩
theorem Pls.one {g z : Gd} {m : Mv} (h : m.app g.1 g.2 = (0, z.1, z.2)) (hm : m.k ≠ 4) : Pls g [m] z := by
  refine ⟨fun i => ?_, by simp; exact hm⟩
  simp only [playFrom, h, if_true]
theorem Pls.two {g y z : Gd} {m m' : Mv} (h : m.app g.1 g.2 = (0, y.1, y.2)) (h' : m'.app y.1 y.2 = (0, z.1, z.2)) (hm : m.k ≠ 4) (hm' : m'.k ≠ 4) : Pls g [m, m'] z := by
  refine ⟨fun i => ?_, by simp; exact ⟨hm, hm'⟩⟩
  simp only [playFrom, h, h', if_true]
theorem playFrom_app : ∀ (A B : List Mv) (i : Nat) (X O Y P : List Int), playFrom i X O A = (0, Y, P, -1) → playFrom i X O (A ++ B) = playFrom (i + A.length) Y P B
  | [], B, i, X, O, Y, P, h => by
    injection h with _ h
    injection h with h1 h
    injection h with h2 _
    subst h1; subst h2; rfl
  | m :: A, B, i, X, O, Y, P, h => by
    rw [playFrom] at h
    rw [List.cons_append, playFrom]
    split at h
    · next h0 =>
      rw [if_pos h0, playFrom_app A B _ _ _ _ _ h, List.length_cons]
      congr 1; omega
    · injection h with _ h
      injection h with _ h
      injection h with _ h
      omega
theorem Pls.app {g y z : Gd} {A B : List Mv} (h : Pls g A y) (h' : Pls y B z) : Pls g (A ++ B) z :=
  ⟨fun i => (playFrom_app A B i _ _ _ _ (h.1 i)).trans (h'.1 _), fun m hm => (List.mem_append.1 hm).elim (h.2 m) (h'.2 m)⟩
theorem nbrs_pls {g z : Gd} {ms : List Mv} (h : VdG g) (hm : (ms, z) ∈ nbrs g) : Pls g ms z ∧ ms.length ≤ 2 := by
  have one : ∀ m : Mv, m.k ≠ 4 → (ms, z) ∈ tryM g [m] → Pls g ms z ∧ ms.length ≤ 2 := fun m hk hm => by
    obtain ⟨rfl, q⟩ := (tryM_one h _ _).1 hm
    exact ⟨.one q hk, by simp⟩
  have two : ∀ m m' : Mv, m.k ≠ 4 → m'.k ≠ 4 → (ms, z) ∈ tryM g [m, m'] → Pls g ms z ∧ ms.length ≤ 2 := fun m m' hk hk' hm => by
    obtain ⟨rfl, y, q1, q2⟩ := (tryM_two h _ _).1 hm
    exact ⟨.two q1 q2 hk hk', by simp⟩
  have key : ∀ r, (ms, z) ∈ nbR g r → Pls g ms z ∧ ms.length ≤ 2 := fun r hm => by
    unfold nbR nb1 nb2 nb3 at hm
    rcases List.mem_append.1 hm with hm | hm
    · rcases List.mem_append.1 hm with hm | hm
      · obtain ⟨i, hi, q⟩ := List.mem_flatMap.1 hm
        unfold rmL at q
        split at q
        · exact one _ (by simp [rmM]) q
        · exact two _ _ (by simp [tuM]) (by simp [rmM]) q
      · obtain ⟨i, hi, q⟩ := List.mem_flatMap.1 hm
        exact one _ (by simp [coM]) q
    · exact two _ _ (by simp [tuM]) (by simp [coM]) hm
  unfold nbrs at hm
  rcases List.mem_append.1 hm with hm | hm
  · exact key _ hm
  · exact key _ hm
/-- the entries and the grids that were reached -/
def Alg (g0 : Gd) (K : List En) (A : List Gd) : Prop :=
  A.length = K.length ∧ ∀ (i : Nat) e a, K[i]? = some e → A[i]? = some a → VdG a ∧ lstM a = e.key ∧
    ((e.fr = none ∧ e.ms = [] ∧ a = g0) ∨ ∃ (j : Nat) (b : Gd) (e' : En), j < i ∧ K[j]? = some e' ∧ A[j]? = some b ∧ e.fr = some e'.key ∧ (e.ms, a) ∈ nbrs b)
/-- what a run keeps; H: what has been taken up, but not been done yet -/
structure PlX (g0 : Gd) (short : Bool) (H : Gd → Prop) (s : St) (A : List Gd) : Prop where
  alg : Alg g0 s.1 A
  wt : ∀ l ∈ s.2, ∀ g ∈ l, g ∈ A
  dn : ∀ a ∈ A, (∃ l ∈ s.2, a ∈ l) ∨ H a ∨ (¬ (short = true ∧ a.1.length = 2) ∧ ∀ ms z, (ms, z) ∈ nbrs a → hasK s.1 (lstM z) = true)
theorem hasK_app {K E : List En} {c : Gd} (h : hasK K c = true) : hasK (K ++ E) c = true := by
  obtain ⟨e, he, hk⟩ := hasK_yes h
  exact List.any_eq_true.2 ⟨e, List.mem_append_left _ he, by simpa using hk⟩
theorem Alg.get {g0 : Gd} {K : List En} {A : List Gd} (h : Alg g0 K A) {a : Gd} (ha : a ∈ A) : ∃ (i : Nat) (e : En), K[i]? = some e ∧ A[i]? = some a ∧ lstM a = e.key ∧ VdG a := by
  obtain ⟨i, hi⟩ := List.getElem?_of_mem ha
  have hlt : i < K.length := by rw [← h.1]; exact (List.getElem?_eq_some_iff.1 hi).1
  obtain ⟨h1, h2, _⟩ := h.2 i _ a (List.getElem?_eq_getElem hlt) hi
  exact ⟨i, _, List.getElem?_eq_getElem hlt, hi, h2, h1⟩
theorem Alg.snoc {g0 : Gd} {K : List En} {A : List Gd} (h : Alg g0 K A) {e : En} {a : Gd} (hv : VdG a) (hk : lstM a = e.key)
    (hf : (e.fr = none ∧ e.ms = [] ∧ a = g0) ∨ ∃ (j : Nat) (b : Gd) (e' : En), K[j]? = some e' ∧ A[j]? = some b ∧ e.fr = some e'.key ∧ (e.ms, a) ∈ nbrs b) : Alg g0 (K ++ [e]) (A ++ [a]) := by
  refine ⟨by simp [h.1], fun i e1 a1 h1 h2 => ?_⟩
  rcases Nat.lt_or_ge i K.length with hi | hi
  · rw [List.getElem?_append_left hi] at h1
    rw [List.getElem?_append_left (by rw [h.1]; exact hi)] at h2
    obtain ⟨q1, q2, q3⟩ := h.2 i e1 a1 h1 h2
    refine ⟨q1, q2, q3.imp (fun x => x) ?_⟩
    rintro ⟨j, b, e', hj, k1, k2, k3⟩
    exact ⟨j, b, e', hj, by rw [List.getElem?_append_left (by omega)]; exact k1, by rw [List.getElem?_append_left (by rw [h.1]; omega)]; exact k2, k3⟩
  · rw [List.getElem?_append_right hi] at h1
    rw [List.getElem?_append_right (by rw [h.1]; exact hi), h.1] at h2
    cases hz : i - K.length with
    | succ z => rw [hz] at h1; simp at h1
    | zero =>
      rw [hz] at h1 h2
      simp at h1 h2
      subst h1; subst h2
      refine ⟨hv, hk, hf.imp (fun x => x) ?_⟩
      rintro ⟨j, b, e', k1, k2, k3⟩
      have hj := (List.getElem?_eq_some_iff.1 k1).1
      exact ⟨j, b, e', by omega, by rw [List.getElem?_append_left hj]; exact k1, by rw [List.getElem?_append_left (by rw [h.1]; exact hj)]; exact k2, k3⟩
theorem modify_self {α : Type} {f : α → α} : ∀ {l : List α} {n : Nat} (h : n < l.length), f l[n] ∈ l.modify n f
  | a :: l, 0, h => by simp
  | a :: l, n + 1, h => by
    have := modify_self (f := f) (l := l) (n := n) (by simpa using h)
    simp at this ⊢
    exact .inr this
theorem modify_old {α : Type} {f : α → α} {P : α → Prop} (hf : ∀ x, P x → P (f x)) : ∀ {l : List α} {n : Nat}, (∃ x ∈ l, P x) → ∃ x ∈ l.modify n f, P x
  | [], n, ⟨x, hx, _⟩ => by simp at hx
  | a :: l, 0, ⟨x, hx, hp⟩ => by
    rcases List.mem_cons.1 hx with rfl | hx
    · exact ⟨f x, by simp, hf x hp⟩
    · exact ⟨x, by simp [hx], hp⟩
  | a :: l, n + 1, ⟨x, hx, hp⟩ => by
    rcases List.mem_cons.1 hx with rfl | hx
    · exact ⟨x, by simp, hp⟩
    · obtain ⟨y, hy, hpy⟩ := modify_old hf (l := l) (n := n) ⟨x, hx, hp⟩
      exact ⟨y, by simp [hy], hpy⟩
/-- a grid is added -/
theorem PlX.add {g0 : Gd} {short : Bool} {H : Gd → Prop} {s s' : St} {A : List Gd} {most : Int} {z : Gd} {fr : Option Gd} {ms : List Mv} (h : PlX g0 short H s A) (hl2 : s.2.length = 41) (hz : VdG z) (ha : addM most s z fr ms = some s')
    (hf : (fr = none ∧ ms = [] ∧ z = g0) ∨ ∃ (j : Nat) (b : Gd) (e' : En), s.1[j]? = some e' ∧ A[j]? = some b ∧ fr = some e'.key ∧ (ms, z) ∈ nbrs b) :
    ∃ A', PlX g0 short H s' A' ∧ (∃ E, A' = A ++ E) ∧ hasK s'.1 (lstM z) = true ∧ s'.2.length = 41 := by
  unfold addM at ha
  split at ha
  · next hk => injection ha with ha; subst ha; exact ⟨A, h, ⟨[], by simp⟩, hk, hl2⟩
  next hk =>
  split at ha
  · cases ha
  injection ha with ha
  subst ha
  have h40 := hz.most
  refine ⟨A ++ [z], ⟨h.alg.snoc hz rfl hf, ?_, ?_⟩, ⟨_, rfl⟩, ?_, by simpa using hl2⟩
  · intro l hl g hg
    rcases modify_mem hl with hl | ⟨y, hy, rfl⟩
    · exact List.mem_append_left _ (h.wt l hl g hg)
    · rcases List.mem_append.1 hg with q | q
      · exact List.mem_append_left _ (h.wt y hy g q)
      · rw [List.mem_singleton.1 q]; simp
  · intro a ha
    rcases List.mem_append.1 ha with ha | ha
    · rcases h.dn a ha with q | q | ⟨q1, q2⟩
      · left
        exact modify_old (P := fun l => a ∈ l) (fun x hx => List.mem_append_left _ hx) q
      · exact .inr (.inl q)
      · exact .inr (.inr ⟨q1, fun ms z hz => hasK_app (q2 ms z hz)⟩)
    · rw [List.mem_singleton.1 ha]
      left
      have hlt : z.1.length < s.2.length := by omega
      exact ⟨_, modify_self (f := (· ++ [z])) hlt, by simp⟩
  · exact List.any_eq_true.2 ⟨⟨lstM z, ms, fr⟩, by simp, by simp⟩
theorem PlX.all {g0 : Gd} {short : Bool} {most : Int} {h : Gd} : ∀ (l : List (List Mv × Gd)) {s s' : St} {A : List Gd}, PlX g0 short (fun a => a = h) s A → s.2.length = 41 → VdG h → h ∈ A → (∀ p ∈ l, p ∈ nbrs h) → addAll most (some (lstM h)) s l = some s' →
    ∃ A', PlX g0 short (fun a => a = h) s' A' ∧ h ∈ A' ∧ (∀ p ∈ l, hasK s'.1 (lstM p.2) = true) ∧ (∃ E, s'.1 = s.1 ++ E) ∧ s'.2.length = 41
  | [], s, s', A, hp, h41, hv, hA, hs, ha => by
    injection ha with ha; subst ha
    exact ⟨A, hp, hA, by simp, ⟨[], by simp⟩, h41⟩
  | (ms, z) :: t, s, s', A, hp, h41, hv, hA, hs, ha => by
    unfold addAll at ha
    cases h1 : addM most s z (some (lstM h)) ms with
    | none => rw [h1] at ha; cases ha
    | some s1 =>
      rw [h1] at ha
      obtain ⟨i, e, k1, k2, k3, k4⟩ := hp.alg.get hA
      have hn := hs (ms, z) (by simp)
      obtain ⟨A1, q1, ⟨E, rfl⟩, q3, q4⟩ := hp.add h41 (nbrs_vd hv hn) h1 (.inr ⟨i, h, e, k1, k2, by rw [k3], hn⟩)
      obtain ⟨A2, r1, r2, r3, ⟨E2, r4⟩, r5⟩ := PlX.all t q1 q4 hv (List.mem_append_left _ hA) (fun p hp => hs p (by simp [hp])) ha
      obtain ⟨E1, e1⟩ := addM_len h1
      refine ⟨A2, r1, r2, fun p hp => ?_, ⟨E1 ++ E2, by rw [r4, e1, List.append_assoc]⟩, r5⟩
      rcases List.mem_cons.1 hp with rfl | hp
      · rw [r4]; exact hasK_app q3
      · exact r3 p hp
theorem nextM_empty : ∀ {l : List (List Gd)}, nextM l = none → ∀ x ∈ l, x = []
  | [], h, x, hx => by simp at hx
  | [] :: l, h, x, hx => by
    rw [nextM] at h
    rcases List.mem_cons.1 hx with rfl | hx
    · rfl
    · cases hn : nextM l with
      | none => exact nextM_empty hn x hx
      | some p => rw [hn] at h; cases h
  | (y :: t) :: l, h, x, hx => by rw [nextM] at h; cases h
/-- what all was done leaves -/
def Dn (g0 : Gd) (short : Bool) (K : List En) : Prop := ∃ A, Alg g0 K A ∧ A ≠ [] ∧ ∀ a ∈ A, ¬ (short = true ∧ a.1.length = 2) ∧ ∀ ms z, (ms, z) ∈ nbrs a → hasK K (lstM z) = true
/-- what was found -/
def Fd (g0 : Gd) (K : List En) (c : Gd) : Prop := ∃ A a, Alg g0 K A ∧ a ∈ A ∧ a.1.length = 2 ∧ c = lstM a
theorem Run.pl {most : Int} {short : Bool} {g0 : Gd} {s : St} {r : Res} (h : Run most short s r) : ∀ {A : List Gd}, PlX g0 short (fun _ => False) s A → StP s → A ≠ [] → (∀ K, r = .done K → Dn g0 short K) ∧ ∀ K c, r = .found K c → Fd g0 K c := by
  induction h with
  | @done s h =>
    intro A hp hs hA
    refine ⟨fun K e => ?_, fun K c e => by cases e⟩
    injection e with e
    subst e
    refine ⟨A, hp.alg, hA, fun a ha => ?_⟩
    rcases hp.dn a ha with ⟨l, hl, hal⟩ | q | q
    · rw [nextM_empty h l hl] at hal; simp at hal
    · exact q.elim
    · exact q
  | @found s g W h hsh h2 =>
    intro A hp hs hA
    refine ⟨fun K e => (by cases e), fun K c e => ?_⟩
    injection e with e1 e2
    subst e1; subst e2
    obtain ⟨k, t, e1, _⟩ := nextM_get h
    exact ⟨A, g, hp.alg, hp.wt _ (List.mem_of_getElem? e1) g (by simp), h2, rfl⟩
  | fuel h hsh ha => exact fun _ _ _ => ⟨fun K e => (by cases e), fun K c e => (by cases e)⟩
  | @step s s' g W r h hsh ha hr ih =>
    intro A hp hs hA
    obtain ⟨k, t, e1, e2⟩ := nextM_get h
    obtain ⟨hs1, hvg⟩ := hs.next h
    have hgA := hp.wt _ (List.mem_of_getElem? e1) g (by simp)
    have hpx : PlX g0 short (fun a => a = g) (s.1, W) A := by
      refine ⟨hp.alg, fun l hl g' hg' => ?_, fun a ha => ?_⟩
      · rw [e2] at hl
        rcases List.mem_or_eq_of_mem_set hl with q | q
        · exact hp.wt l q g' hg'
        · subst q; exact hp.wt _ (List.mem_of_getElem? e1) g' (by simp [hg'])
      · rcases hp.dn a ha with ⟨l, hl, hal⟩ | q | q
        · by_cases e : a = g
          · exact .inr (.inl e)
          · left
            obtain ⟨i, hi⟩ := List.getElem?_of_mem hl
            by_cases ei : i = k
            · subst ei
              rw [e1] at hi
              injection hi with hi
              subst hi
              have hat : a ∈ t := by
                rcases List.mem_cons.1 hal with q | q
                · exact absurd q e
                · exact q
              exact ⟨t, by rw [e2]; exact List.mem_of_getElem? (List.getElem?_set_self (List.getElem?_eq_some_iff.1 e1).1), hat⟩
            · exact ⟨l, by rw [e2]; exact List.mem_of_getElem? ((List.getElem?_set_ne (Ne.symm ei)).trans hi), hal⟩
        · exact q.elim
        · exact .inr (.inr q)
    obtain ⟨A', q1, q2, q3, _, q5⟩ := PlX.all (nbrs g) hpx hs1.l2 hvg hgA (fun p hp => hp) ha
    have hst : ∀ (l : List (List Mv × Gd)) {s s' : St}, StP s → (∀ p ∈ l, VdG p.2) → addAll most (some (lstM g)) s l = some s' → StP s' := by
      intro l
      induction l with
      | nil => intro s s' hs _ ha; injection ha with ha; subst ha; exact hs
      | cons p t iht =>
        intro s s' hs hv ha
        obtain ⟨ms, z⟩ := p
        unfold addAll at ha
        cases h1 : addM most s z (some (lstM g)) ms with
        | none => rw [h1] at ha; cases ha
        | some s1 =>
          rw [h1] at ha
          exact iht (hs.add (hv (ms, z) (by simp)) h1) (fun p hp => hv p (by simp [hp])) ha
    refine ih (A := A') ⟨q1.alg, q1.wt, fun a ha => ?_⟩ (hst _ hs1 (fun p hp => nbrs_vd hvg (show (p.1, p.2) ∈ nbrs g from hp)) ha) (fun e => by rw [e] at q2; simp at q2)
    rcases q1.dn a ha with q | q | q
    · exact .inl q
    · subst q
      exact .inr (.inr ⟨hsh, fun ms z hz => q3 (ms, z) hz⟩)
    · exact .inr (.inr q)
theorem pl_start {most : Int} {short : Bool} {g : Gd} {s : St} (hv : VdG g) (ha : addM most st00 g none [] = some s) : ∃ A, PlX g short (fun _ => False) s A ∧ A ≠ [] := by
  have h0 : PlX g short (fun _ => False) st00 [] := ⟨⟨rfl, fun i e a h => by simp [st00] at h⟩, fun l hl x hx => by unfold st00 at hl; simp at hl; subst hl; simp at hx, fun a ha => by simp at ha⟩
  obtain ⟨A, h1, _, h3, _⟩ := h0.add (by simp [st00]) hv ha (.inl ⟨rfl, rfl, rfl⟩)
  refine ⟨A, h1, fun e => ?_⟩
  subst e
  obtain ⟨e, he, _⟩ := hasK_yes h3
  have := h1.alg.1
  rw [List.eq_nil_of_length_eq_zero this.symm] at he
  simp at he
theorem Exq.pl {most : Int} {short : Bool} {g : Gd} {r : Res} (hv : VdG g) (h : Exq most short g r) : (∀ K, r = .done K → Dn g short K) ∧ ∀ K c, r = .found K c → Fd g K c := by
  cases h with
  | none h => exact ⟨fun K e => (by cases e), fun K c e => (by cases e)⟩
  | some h hr =>
    obtain ⟨A, h1, h2⟩ := pl_start (short := short) hv h
    exact hr.pl h1 (StP.start.add hv h) h2
/-! ### the number of entries -/
theorem addM_most {most : Int} {s s' : St} {g : Gd} {fr : Option Gd} {ms : List Mv} (h : s.1.length ≤ most.toNat) (ha : addM most s g fr ms = some s') : s'.1.length ≤ most.toNat := by
  unfold addM at ha
  split at ha
  · injection ha with ha; subst ha; exact h
  · split at ha
    · cases ha
    · injection ha with ha; subst ha; simp; omega
theorem addAll_most {most : Int} {fr : Option Gd} : ∀ (l : List (List Mv × Gd)) {s s' : St}, s.1.length ≤ most.toNat → addAll most fr s l = some s' → s'.1.length ≤ most.toNat
  | [], s, s', h, ha => by injection ha with ha; subst ha; exact h
  | (ms, g) :: t, s, s', h, ha => by
    unfold addAll at ha
    cases h1 : addM most s g fr ms with
    | none => rw [h1] at ha; cases ha
    | some s1 => rw [h1] at ha; exact addAll_most t (addM_most h h1) ha
theorem Run.most {most : Int} {short : Bool} {s : St} {r : Res} (h : Run most short s r) : s.1.length ≤ most.toNat → ∀ K, (r = .done K ∨ ∃ c, r = .found K c) → K.length ≤ most.toNat := by
  induction h with
  | done h => intro hs K e; rcases e with e | ⟨c, e⟩ <;> cases e; exact hs
  | found h hsh h2 => intro hs K e; rcases e with e | ⟨c, e⟩ <;> cases e; exact hs
  | fuel h hsh ha => intro hs K e; rcases e with e | ⟨c, e⟩ <;> cases e
  | @step s s' g W r h hsh ha hr ih => intro hs K e; exact ih (addAll_most (s := (s.1, W)) _ hs ha) K e
theorem Exq.most {most : Int} {short : Bool} {g : Gd} {r : Res} (h : Exq most short g r) : ∀ K, (r = .done K ∨ ∃ c, r = .found K c) → K.length ≤ most.toNat := by
  cases h with
  | none h => intro K e; rcases e with e | ⟨c, e⟩ <;> cases e
  | some h hr => exact hr.most (addM_most (by simp [st00]) h)
end Go.Proofs.YteliflcbegcdlaaGreatDoor

namespace Go.Proofs.YteliflcbegcdlaaGreatDoor
open Go.RowKit
set_option linter.unusedVariables false
/-- block g holds cells of type e, the first of which are xs -/
def RowV (e : TypeId) (g : Nat) (w : World) (xs : List Value) : Prop := ∃ cur : Array Value, w.heap[g]? = some (.cells cur e (0, 0)) ∧ ∀ (i : Nat) x, xs[i]? = some x → cur[i]? = some x
section
variable {e : TypeId} {g : Nat} {w w' : World} {xs : List Value}
theorem RowV.cell (h : RowV e g w xs) {i : Nat} {x : Value} (hx : xs[i]? = some x) : w.cell? ⟨g, i, none⟩ = some x := by
  obtain ⟨cur, h1, h2⟩ := h
  rw [cell_of_row w g _ cur e (0, 0) h1]
  exact h2 i x hx
theorem RowV.frozen (h : RowV e g w xs) (i : Nat) : w.frozen? ⟨g, i, none⟩ = false := by
  obtain ⟨cur, h1, _⟩ := h
  exact frozen_of_row w g _ cur e h1
theorem RowV.set (h : RowV e g w xs) {i : Nat} (hi : i < xs.length) (v : Value) : RowV e g (w.setCell ⟨g, i, none⟩ v) (xs.set i v) := by
  obtain ⟨cur, h1, h2⟩ := h
  have hlt : i < cur.size := (Array.getElem?_eq_some_iff.1 (h2 i _ (List.getElem?_eq_getElem hi))).1
  refine ⟨_, heap_setCell_same w g i cur e v h1, fun j x hj => ?_⟩
  by_cases ej : i = j
  · subst ej
    rw [List.getElem?_set_self hi] at hj
    injection hj with hj
    rw [Array.getElem?_setIfInBounds, if_pos rfl, if_pos hlt, hj]
  · rw [List.getElem?_set_ne ej] at hj
    rw [Array.getElem?_setIfInBounds, if_neg ej]
    exact h2 j x hj
theorem RowV.drew (h : RowV e g w xs) : RowV e g w.drew xs := h
theorem RowV.keep (h : RowV e g w xs) (hk : w'.heap[g]? = w.heap[g]?) : RowV e g w' xs := by
  obtain ⟨cur, h1, h2⟩ := h
  exact ⟨cur, hk.trans h1, h2⟩
theorem RowV.lt (h : RowV e g w xs) : g < w.heap.size := by
  obtain ⟨cur, h1, _⟩ := h
  exact (Array.getElem?_eq_some_iff.1 h1).1
end
/-- the first t and the last t have changed places -/
def rvV (xs : List Value) (t : Nat) : List Value := (List.range xs.length).map fun i => if i < t ∨ xs.length - t ≤ i then xs.getD (xs.length - 1 - i) undef else xs.getD i undef
theorem rvV_length (xs : List Value) (t : Nat) : (rvV xs t).length = xs.length := by simp [rvV]
theorem rvV_get {xs : List Value} {t i : Nat} (h : i < xs.length) : (rvV xs t)[i]? = some (if i < t ∨ xs.length - t ≤ i then xs.getD (xs.length - 1 - i) undef else xs.getD i undef) := by
  unfold rvV; rw [List.getElem?_map, List.getElem?_range h]; rfl
theorem getD_get {xs : List Value} {i : Nat} (h : i < xs.length) : xs.getD i undef = xs[i] := by simp [List.getD_eq_getElem?_getD, h]
theorem rvV_zero (xs : List Value) : rvV xs 0 = xs := by
  apply List.ext_getElem?
  intro i
  by_cases h : i < xs.length
  · rw [rvV_get h, if_neg (by omega), getD_get h, List.getElem?_eq_getElem h]
  · rw [List.getElem?_eq_none (by rw [rvV_length]; omega), List.getElem?_eq_none (by omega)]
theorem rvV_end {xs : List Value} {t : Nat} (h : xs.length ≤ 2 * t + 1) : rvV xs t = xs.reverse := by
  apply List.ext_getElem?
  intro i
  by_cases hi : i < xs.length
  · rw [rvV_get hi, List.getElem?_reverse hi, List.getElem?_eq_getElem (show xs.length - 1 - i < xs.length by omega), ← getD_get (show xs.length - 1 - i < xs.length by omega)]
    by_cases e : i < t ∨ xs.length - t ≤ i
    · rw [if_pos e]
    · rw [if_neg e, show xs.length - 1 - i = i by omega]
  · rw [List.getElem?_eq_none (by rw [rvV_length]; omega), List.getElem?_eq_none (by simp; omega)]
theorem rvV_step {xs : List Value} {t : Nat} (h : t + 1 + t < xs.length) : ((rvV xs t).set t (xs.getD (xs.length - 1 - t) undef)).set (xs.length - 1 - t) (xs.getD t undef) = rvV xs (t + 1) := by
  apply List.ext_getElem?
  intro i
  by_cases hi : i < xs.length
  · rw [rvV_get hi]
    by_cases e1 : xs.length - 1 - t = i
    · subst e1
      rw [List.getElem?_set_self (by simp [rvV_length]; omega), if_pos (by omega), show xs.length - 1 - (xs.length - 1 - t) = t by omega]
    · rw [List.getElem?_set_ne e1]
      by_cases e2 : t = i
      · subst e2
        rw [List.getElem?_set_self (by rw [rvV_length]; omega), if_pos (by omega)]
      · rw [List.getElem?_set_ne e2, rvV_get hi]
        by_cases e3 : i < t ∨ xs.length - t ≤ i
        · rw [if_pos e3, if_pos (by omega)]
        · rw [if_neg e3, if_neg (by omega)]
  · rw [List.getElem?_eq_none (by simp [rvV_length]; omega), List.getElem?_eq_none (by rw [rvV_length]; omega)]
set_option maxHeartbeats 2000000 in
set_option maxRecDepth 100000 in
theorem reverse_any (e : TypeId) (B g c : Nat) (xs : List Value) (w : World) (h : RowV e g w xs) (hB : B ≤ g) (hl : xs.length ≤ 1000000000) (hsl : ∀ x ∈ xs, IsSl x) :
    Calls Tryz.prog 51 #[.slice (some ⟨g, 0, none⟩) xs.length c] w fun e' w' => e' = .returned (.tuple #[]) ∧ RowV e g w' xs.reverse ∧ Below B w w' := by
  obtain ⟨n, hn⟩ : ∃ n, n = xs.length := ⟨_, rfl⟩
  rw [← hn] at hl ⊢
  have HN := Lib.hid hn
  have HB := Lib.hid hB
  have HR := Lib.hid h
  have HSL := Lib.hid (fun i (hi : i < xs.length) => show IsSl (xs.getD i undef) from by rw [getD_get hi]; exact hsl _ (List.getElem_mem hi))
  clear hn hB h hsl
  go_enter Tryz.func51, Tryz.ntmps51
  go_wp2_with fail
  go_loopg [2, 3] (n + 1) (fun gk s2 s3 wr => ∃ t : Nat, t ≤ n ∧ gk = n + 1 - t ∧ s2 = .int .i64 (t : Int) ∧ s3 = .int .i64 ((n : Int) - 1 - t) ∧ Hid (RowV e g wr (rvV xs t)) ∧ Hid (Below B w wr))
  case atStart => exact ⟨0, by omega, rfl, rfl, by go_num, Lib.hid (by rw [rvV_zero]; exact HR.out), Lib.hid (Below.refl _ _)⟩
  case round =>
    obtain ⟨t, ht, rfl, rfl, rfl, H, HW⟩ := hrel
    by_cases hlt : t + 1 + t < n
    · have z1 : (t : Int) < (n : Int) - 1 - t := by omega
      have hxl : (rvV xs t).length = n := by rw [rvV_length, HN.out]
      have y0 := H.out.cell (i := t) (x := xs.getD t undef) (by rw [rvV_get (by have := HN.out; omega), if_neg (by have := HN.out; omega)])
      have y1 := H.out.cell (i := n - 1 - t) (x := xs.getD (n - 1 - t) undef) (by rw [rvV_get (by have := HN.out; omega), if_neg (by have := HN.out; omega)])
      have f0 := H.out.frozen t
      have f1 := H.out.frozen (n - 1 - t)
      have HS := Lib.hid (rvV_step (xs := xs) (t := t) (by have := HN.out; omega))
      obtain ⟨m, hm⟩ : ∃ m : Nat, m = n - 1 - t := ⟨_, rfl⟩
      rw [← HN.out, ← hm] at HS
      rw [← hm] at y1 f1
      have e1 : (n : Int) - 1 - t = (m : Int) := by omega
      have HMT := Lib.hid (show t < m ∧ m < n by omega)
      have z2 : (t : Int) < (n : Int) := by omega
      have z3 : (m : Int) < (n : Int) := by omega
      have z4 : ¬ t = m := by omega
      have z5 : ¬ m = t := by omega
      obtain ⟨x, hx⟩ : ∃ x, x = xs.getD t undef := ⟨_, rfl⟩
      obtain ⟨y, hy⟩ : ∃ y, y = xs.getD m undef := ⟨_, rfl⟩
      rw [← hx, ← hy] at HS
      rw [← hx] at y0
      rw [← hy] at y1
      have HXL := Lib.hid hxl
      obtain ⟨A0, n0, c0, hx0⟩ := HSL.out t (by have := HN.out; omega)
      obtain ⟨A1, n1, c1, hy0⟩ := HSL.out m (by have := HN.out; omega)
      rw [← hx] at hx0
      rw [← hy] at hy0
      clear hxl hx hy hm
      subst hx0; subst hy0
      rw [e1] at z1 ⊢
      go_upto_region 3 with fail
      go_region
      have a2 := ((H.out.set (i := t) (by have := HXL.out; omega) (.slice A1 n1 c1)).set (i := m) (by have := HXL.out; have := HMT.out; simp; omega) (.slice A0 n0 c0)).drew
      rw [HS.out] at a2
      have b2 := ((HW.out.setCell (p := ⟨g, t, none⟩) HB.out (.slice A1 n1 c1)).setCell (p := ⟨g, m, none⟩) HB.out (.slice A0 n0 c0)).drew
      have HA2 := Lib.hid a2
      have HB2 := Lib.hid b2
      clear a2 b2 y0 y1 f0 f1
      generalize ((wr.setCell ⟨g, t, none⟩ (.slice A1 n1 c1)).setCell ⟨g, m, none⟩ (.slice A0 n0 c0)).drew = w5 at HA2 HB2 ⊢
      go_wp2_with fail
      go_roundg (n + 1 - (t + 1))
      case measure => omega
      case rel =>
        have e : (m : Int) - 1 = (n : Int) - 1 - ((t + 1 : Nat) : Int) := by omega
        exact ⟨t + 1, by omega, rfl, by go_num, by rw [← e], HA2, HB2⟩
    · have z1 : ¬ (t : Int) < (n : Int) - 1 - t := by omega
      go_wp2_with fail
      refine bodyPost_end (results_none rfl _ _ _) rfl ?_
      refine ⟨rfl, ?_, HW.out⟩
      have := H.out
      rw [rvV_end (by have := HN.out; omega)] at this
      exact this
end Go.Proofs.YteliflcbegcdlaaGreatDoor

namespace Go.Proofs.YteliflcbegcdlaaGreatDoor
open Go.RowKit
set_option linter.unusedVariables false
theorem info_mvc : (Tryz.prog.info? 94).map (fun i => (i.zero, i.size, i.bytes)) = some (some (.agg #[.int .i64 0, .bool false, .int .i64 0, .int .i64 0]), 4, 32) := by kernel_rfl
theorem mvc_len (m : Mv) : m.cells.length = 4 := rfl
theorem elM : ElA Tryz.prog 94 4 Mv.cells where
  ex := by
    obtain ⟨i, hi, hz, hs, hb⟩ := info_parts info_mvc
    exact ⟨i, _, 32, hi, hz, hs, hb, rfl, by omega⟩
  pos := by omega
  len := mvc_len
  one := fun m q h => by unfold Mv.cells at h; simp at h; rcases h with rfl | rfl | rfl | rfl <;> rfl
theorem Moves.sl0 {w : World} {v : Value} {ms : List Mv} (h : Moves w v ms) : SlA0 Mv.cells w v ms := by
  obtain ⟨A, c, e, hx⟩ := h
  refine ⟨A, c, e, fun j q hq => ?_⟩
  have hlt := (List.getElem?_eq_some_iff.1 hq).1
  rw [flat_len mvc_len] at hlt
  have hk : j / 4 < ms.length := by omega
  obtain ⟨b, o, hA, hc⟩ := hx (j / 4) hk
  have := flat_get mvc_len ms (j / 4) (j % 4) hk (by omega)
  rw [show j / 4 * 4 + j % 4 = j by omega, hq] at this
  have h2 := hc (j % 4) q this.symm
  rw [show o + j / 4 * 4 + j % 4 = o + j by omega] at h2
  exact ⟨b, o, hA, h2⟩
theorem SlA.moves {w : World} {v : Value} {ms : List Mv} (h : SlA Mv.cells w v ms) : Moves w v ms := by
  obtain ⟨A, c, e, _, hx⟩ := h
  refine ⟨A, c, e, fun k hk => ?_⟩
  have h0 := flat_get mvc_len ms k 0 hk (by omega)
  obtain ⟨b, o, hA, _⟩ := hx (k * 4 + 0) _ (h0.trans (show _ = some (ms[k].cells[0]'(by rw [mvc_len]; omega)) from List.getElem?_eq_getElem _))
  refine ⟨b, o, hA, fun j u hu => ?_⟩
  have hj : j < 4 := by have := (List.getElem?_eq_some_iff.1 hu).1; rw [mvc_len] at this; exact this
  have h1 := flat_get mvc_len ms k j hk hj
  obtain ⟨b', o', hA', hc⟩ := hx (k * 4 + j) u (h1.trans hu)
  rw [hA] at hA'
  injection hA' with hA'
  injection hA' with e1 e2
  subst e1; subst e2
  rw [Nat.add_assoc]; exact hc
set_option maxHeartbeats 1000000 in
theorem growM_any (n : Nat) (w : World) (hn : n ≤ 1000000) :
    Calls Tryz.prog 76 #[.slice none 0 0, .int .i64 (n : Nat)] w fun e w' => ∃ v, e = .returned v ∧ OwnA 94 4 Mv.cells w.heap.size w' v [] ∧ Below w.heap.size w w' := by
  have h1 : ¬ ((n : Int) < 0) := by omega
  rcases Nat.eq_zero_or_pos n with rfl | h0
  · go_enter Tryz.func76, Tryz.ntmps76
    go_wp2_with fail
    go_ret
    exact ⟨_, rfl, OwnA.nil _ _ _ _ _, Below.refl _ _⟩
  · have h2 : (0 : Int) < (n : Int) := by omega
    obtain ⟨i0, hi0, hz0, hz1, hz2⟩ := info_parts info_mvc
    have hGn := grownCap_ge w n 0 94
    have hGm := grownCap_le_maxLen w n 0 94 (by unfold maxLen; omega)
    have hrz := Lib.hid (fun ty => Lib.run_append_grow_zeros w 39 3 ty 94 i0 (.agg #[.int .i64 0, .bool false, .int .i64 0, .int .i64 0]) .i64 .i64 Tryz.underlying39 Tryz.underlying3 hi0 hz0 none 0 0 [] (run_firstCells_none w.drew i0.size 0 0 0) n h0 (by rw [hz1]; decide) (by omega) (by omega) (by rw [hz2]; omega) (by rw [hz2]; unfold Builtin.nextslicecap; simp; split <;> omega))
    rw [Nat.zero_add] at hrz
    have HR := Lib.hid (show OwnA 94 4 Mv.cells w.heap.size (w.drew.alloc (.cells (([] : List Value).toArray ++ Builtin.zeroCells (Value.agg #[.int .i64 0, .bool false, .int .i64 0, .int .i64 0]).cells n ++ Builtin.zeroCells (Value.agg #[.int .i64 0, .bool false, .int .i64 0, .int .i64 0]).cells (grownCap w n 0 94 - n)) 94)) (.slice (some ⟨w.heap.size, 0, none⟩) 0 (grownCap w n 0 94)) [] from
      ⟨by simp, .inr ⟨w.heap.size, _, _, rfl, Nat.le_refl _, heap_alloc_new w.drew _, Nat.zero_le _, hGm, by
        rw [Array.size_append, Array.size_append, size_zeroCells, size_zeroCells]
        show 0 + n * 4 + (grownCap w n 0 94 - n) * 4 = grownCap w n 0 94 * 4
        omega, rfl⟩⟩)
    have HB := Lib.hid (show Below w.heap.size w (w.drew.alloc (.cells (([] : List Value).toArray ++ Builtin.zeroCells (Value.agg #[.int .i64 0, .bool false, .int .i64 0, .int .i64 0]).cells n ++ Builtin.zeroCells (Value.agg #[.int .i64 0, .bool false, .int .i64 0, .int .i64 0]).cells (grownCap w n 0 94 - n)) 94)) from ((Below.refl _ _).drew).alloc (Nat.le_refl _) _)
    generalize (w.drew.alloc (.cells (([] : List Value).toArray ++ Builtin.zeroCells (Value.agg #[.int .i64 0, .bool false, .int .i64 0, .int .i64 0]).cells n ++ Builtin.zeroCells (Value.agg #[.int .i64 0, .bool false, .int .i64 0, .int .i64 0]).cells (grownCap w n 0 94 - n)) 94)) = w1 at *
    have hG63 : grownCap w n 0 94 ≤ 9223372036854775807 := by unfold maxLen at hGm; omega
    generalize grownCap w n 0 94 = G at *
    go_enter Tryz.func76, Tryz.ntmps76
    go_wp2_with (at_builtin; refine Lib.wpList_append_run _ rfl _ _ _ _ rfl _ _ rfl rfl _ _ (hrz.out _) ?_)
    go_ret
    exact ⟨_, rfl, HR.out, HB.out⟩
/-- the values xs read as the lists of moves mss -/
def AlV (w : World) (xs : List Value) (mss : List (List Mv)) : Prop := xs.length = mss.length ∧ ∀ (i : Nat) x ms, xs[i]? = some x → mss[i]? = some ms → Moves w x ms
theorem AlV.below {w w' : World} {xs : List Value} {mss : List (List Mv)} (h : AlV w xs mss) (hb : Below w.heap.size w w') : AlV w' xs mss := ⟨h.1, fun i x ms h1 h2 => (h.2 i x ms h1 h2).below hb⟩
theorem flat_take_succ {mss : List (List Mv)} {k : Nat} (h : k < mss.length) : (mss.take (k + 1)).flatten = (mss.take k).flatten ++ mss[k] := by
  rw [List.take_succ_eq_append_getElem h, List.flatten_append]; simp
theorem flat_take_le (mss : List (List Mv)) (k : Nat) : (mss.take k).flatten.length ≤ mss.flatten.length := by
  conv => rhs; rw [← List.take_append_drop k mss, List.flatten_append, List.length_append]
  omega
set_option maxHeartbeats 2000000 in
theorem concatM_any (e : TypeId) (g c : Nat) (xs : List Value) (mss : List (List Mv)) (w : World) (hR : RowV e g w xs) (hA : AlV w xs mss) (hl : mss.length ≤ 1000000) (hf : mss.flatten.length ≤ 1000000) :
    Calls Tryz.prog 52 #[.slice (some ⟨g, 0, none⟩) xs.length c] w fun e w' => ∃ v, e = .returned v ∧ Moves w' v mss.flatten ∧ Below w.heap.size w w' := by
  have HR := Lib.hid hR
  have HA := Lib.hid hA
  have HF := Lib.hid hf
  have hxl := hA.1
  obtain ⟨n, hn⟩ : ∃ n, n = mss.length := ⟨_, rfl⟩
  rw [hxl, ← hn]
  rw [← hn] at hl hxl
  have HN := Lib.hid hn
  have HXL := Lib.hid hxl
  clear hn hxl hR hA hf
  go_enter Tryz.func52, Tryz.ntmps52
  go_wp2_with fail
  go_loopg [3, 11] n (fun gk s3 s11 wr => ∃ k : Nat, k ≤ n ∧ gk = n - k ∧ s11 = .int .i64 (k : Int) ∧ s3 = .int .i64 (((mss.take k).flatten.length : Nat) : Int) ∧ w = wr)
  case atStart => exact ⟨0, by omega, rfl, rfl, rfl, rfl⟩
  case round =>
    obtain ⟨k, hk, rfl, rfl, rfl, rfl⟩ := hrel
    by_cases hlt : k < n
    · have z1 : (k : Int) < (n : Int) := by omega
      have hkx : k < xs.length := by rw [HXL.out]; exact hlt
      have hkm : k < mss.length := by rw [← HN.out]; exact hlt
      have hm := HA.out.2 k _ _ (List.getElem?_eq_getElem hkx) (List.getElem?_eq_getElem hkm)
      have yc := HR.out.cell (List.getElem?_eq_getElem hkx)
      have ef := flat_take_succ hkm
      have el := flat_take_le mss (k + 1)
      obtain ⟨ms, hms⟩ : ∃ ms, ms = mss[k] := ⟨_, rfl⟩
      obtain ⟨A, c2, hv, -⟩ := hm
      rw [← hms] at hv ef
      rw [hv] at yc
      have hlen := congrArg List.length ef
      rw [List.length_append] at hlen
      obtain ⟨m, hm⟩ : ∃ m, m = ms.length := ⟨_, rfl⟩
      obtain ⟨s0, hs0⟩ : ∃ s, s = (mss.take k).flatten.length := ⟨_, rfl⟩
      obtain ⟨s1, hs1⟩ : ∃ s, s = (mss.take (k + 1)).flatten.length := ⟨_, rfl⟩
      rw [← hm, ← hs0, ← hs1] at hlen
      rw [← hs1] at el
      rw [← hm] at yc
      have z3 : (s0 : Int) + (m : Int) = (s1 : Int) := by omega
      have z4 : s1 ≤ 1000000 := by have := HF.out; omega
      have z5 : ¬ (s1 : Int) < 0 := by omega
      rw [← hs0]
      have HS1 := Lib.hid hs1
      clear hkx hkm ef el hms hv hlen hm hs0 hs1
      go_wp2_with fail
      go_roundg (n - (k + 1))
      case measure => omega
      case rel => exact ⟨k + 1, by omega, rfl, by go_num, by rw [← HS1.out], rfl⟩
    · have z1 : ¬ (k : Int) < (n : Int) := by omega
      have ekn : k = n := by omega
      have efl : (mss.take k).flatten = mss.flatten := by rw [ekn, HN.out, List.take_length]
      rw [efl]
      have HG := Lib.hid (growM_any mss.flatten.length w HF.out)
      obtain ⟨S, hS⟩ : ∃ S, S = mss.flatten.length := ⟨_, rfl⟩
      rw [← hS] at HG ⊢
      clear efl ekn hS
      go_wp2_with (go_at_call 76; refine HG.out.mono ?_; rintro e5 w5 ⟨v5, rfl, ho5, hb5⟩)
      have HOL := Lib.hid hb5
      have HR5 := Lib.hid (HR.out.keep (hb5.block g HR.out.lt))
      have HA5 := Lib.hid (HA.out.below hb5)
      have hws : w.heap.size ≤ w5.heap.size := hb5.size
      have HWS := Lib.hid hws
      obtain ⟨B, hB⟩ : ∃ B, B = w.heap.size := ⟨_, rfl⟩
      rw [← hB] at ho5 HOL HWS
      have HBw := Lib.hid (show B ≤ w.heap.size by rw [hB]; exact Nat.le_refl _)
      have HGB := Lib.hid (show g < B by rw [hB]; exact HR.out.lt)
      have HAB := Lib.hid (fun (x : Value) (ms : List Mv) W (h : Moves w x ms) (hb : Below B w W) => show Moves W x ms from h.below (by rw [← hB]; exact hb))
      have HBF := Lib.hid (fun W (hb : Below B w W) => show Below w.heap.size w W from by rw [← hB]; exact hb)
      have HRB := Lib.hid (fun W (hb : Below B w W) => show RowV e g W xs from HR.out.keep (hb.block g HGB.out))
      have HO5 := Lib.hid ho5
      clear hB hb5 HR5 HA5 hws ho5
      go_loopg [6, 27] n (fun gk s6 s27 wr => ∃ k : Nat, k ≤ n ∧ gk = n - k ∧ s27 = .int .i64 (k : Int) ∧ Hid (OwnA 94 4 Mv.cells B wr s6 ((mss.take k).flatten)) ∧ Hid (Below B w wr))
      case atStart => exact ⟨0, by omega, rfl, rfl, Lib.hid (by simpa using HO5.out), HOL⟩
      case round =>
        obtain ⟨k, hk, rfl, rfl, HO, HW⟩ := hrel
        have hszr := HW.out.size
        by_cases hlt : k < n
        · have z1 : (k : Int) < (n : Int) := by omega
          have hkx : k < xs.length := by rw [HXL.out]; exact hlt
          have hkm : k < mss.length := by rw [← HN.out]; exact hlt
          have hm := HAB.out _ _ wr (HA.out.2 k _ _ (List.getElem?_eq_getElem hkx) (List.getElem?_eq_getElem hkm)) HW.out
          have yc := (HRB.out wr HW.out).cell (List.getElem?_eq_getElem hkx)
          have ef := flat_take_succ hkm
          have el := flat_take_le mss (k + 1)
          obtain ⟨ms, hms⟩ : ∃ ms, ms = mss[k] := ⟨_, rfl⟩
          have hsl := hm.sl0
          obtain ⟨x, hx⟩ : ∃ x, x = xs[k] := ⟨_, rfl⟩
          rw [← hms] at ef hsl
          rw [← hx] at hsl yc
          have hlen := congrArg List.length ef
          rw [List.length_append] at hlen
          have HLN := Lib.hid (show (mss.take k).flatten.length + ms.length ≤ 1000000000 by have := HF.out; omega)
          have HSL := Lib.hid hsl
          have HEF := Lib.hid ef
          obtain ⟨A, c2, hv, -⟩ := hsl
          have HBS := Lib.hid (show B ≤ wr.heap.size by have := HBw.out; omega)
          subst hv
          clear hkx hkm ef el hms hlen hx hm hszr
          go_wp2_with (at_builtin; refine wpList_appA0 rfl elM _ _ 39 39 rfl Tryz.underlying39 Tryz.underlying39 rfl HO.out rfl HSL.out HLN.out HBS.out ?_; intro v8 w8 h1 h2 h3 h4)
          go_roundg (n - (k + 1))
          case measure => omega
          case rel => exact ⟨k + 1, by omega, rfl, by go_num, Lib.hid (by rw [HEF.out]; exact h1), Lib.hid (HW.out.trans h2)⟩
        · have z1 : ¬ (k : Int) < (n : Int) := by omega
          have ekn : k = n := by omega
          have efl : (mss.take k).flatten = mss.flatten := by rw [ekn, HN.out, List.take_length]
          rw [efl] at HO
          go_wp2_with fail
          go_ret
          exact ⟨_, rfl, HO.out.sl.moves, HBF.out _ HW.out⟩
end Go.Proofs.YteliflcbegcdlaaGreatDoor

namespace Go.Proofs.YteliflcbegcdlaaGreatDoor
open Go.RowKit Go.Shelf
set_option linter.unusedVariables false
/-- the lists of moves that lead to a class, the last one first -/
inductive PathK (K : List En) : Option Gd → List (List Mv) → Prop
  | nil : PathK K none []
  | cons {e : En} {L : List (List Mv)} : e ∈ K → PathK K e.fr L → PathK K (some e.key) (e.ms :: L)
theorem elV : ElA Tryz.prog 39 1 (fun v : SL => [sv v]) where
  ex := by
    have h : (Tryz.prog.info? 39).map (fun i => (i.zero, i.size, i.bytes)) = some (some (.slice none 0 0), 1, 24) := by kernel_rfl
    obtain ⟨i, hi, hz, hs, hb⟩ := info_parts h
    exact ⟨i, _, 24, hi, hz, hs, hb, rfl, by omega⟩
  pos := by omega
  len := fun _ => rfl
  one := fun v q h => by simp at h; subst h; rfl
theorem fm_ne (c : Gd) : ∃ x l, fmG c = x :: l := by
  cases h : fmG c with
  | nil => unfold fmG at h; simp at h
  | cons x l => exact ⟨x, l, rfl⟩
theorem OwnA.row {e : TypeId} {base : Nat} {w : World} {v : Value} {xs : List SL} (h : OwnA e 1 (fun v : SL => [sv v]) base w v xs) (hn : xs ≠ []) : ∃ g c, v = .slice (some ⟨g, 0, none⟩) xs.length c ∧ base ≤ g ∧ RowV e g w (xs.map sv) := by
  have hfl : xs.flatMap (fun v : SL => [sv v]) = xs.map sv := by
    clear h hn
    induction xs with
    | nil => rfl
    | cons x xs ih => rw [List.flatMap_cons, ih]; rfl
  rcases h.2 with ⟨_, h0⟩ | ⟨g, cap, cur, rfl, hg, hh, hn2, _, hc, ht⟩
  · exact absurd (List.eq_nil_of_length_eq_zero h0) hn
  · refine ⟨g, cap, rfl, hg, cur, hh, fun i x hi => ?_⟩
    rw [hfl] at ht
    have hlt := (List.getElem?_eq_some_iff.1 hi).1
    have h1 : cur.toList[i]? = some x := by
      rw [← ht, List.getElem?_take] at hi
      split at hi
      · exact hi
      · cases hi
    simpa using h1
theorem Moves.svx {w : World} {v : Value} {ms : List Mv} (h : Moves w v ms) : ∃ s : SL, v = sv s := by
  obtain ⟨A, c, rfl, _⟩ := h
  exact ⟨(A, ms.length, c), rfl⟩
set_option maxHeartbeats 4000000 in
set_option maxRecDepth 100000 in
theorem path_any (gS : Nat) (p : SP) (s : St) (c : Gd) (L : List (List Mv)) (w : World) (hs : SI gS w s p) (hp : StP s) (hL : PathK s.1 (some c) L) (l1 : L.length ≤ 100000) (l2' : L.flatten.length ≤ 1000000) :
    Calls Tryz.prog 32 #[.pointer (some ⟨gS, 0, none⟩), .string ⟨(fmG c).toArray⟩] w fun e w' => ∃ v, e = .returned v ∧ Moves w' v L.reverse.flatten ∧ Below w.heap.size w w' := by
  obtain ⟨m1, m2, vC, WS, L1, k1, k2⟩ := p
  obtain ⟨fr0, hfr⟩ : ∃ fr0 : Option Gd, fr0 = some c := ⟨_, rfl⟩
  rw [show fmG c = frS fr0 by rw [hfr]; rfl]
  rw [← hfr] at hL
  have HFR := Lib.hid hfr
  have HS := Lib.hid hs
  have HP := Lib.hid hp
  have HL := Lib.hid hL
  have H1 := Lib.hid l1
  have H2 := Lib.hid l2'
  clear hs hp hL l1 l2' hfr
  go_enter Tryz.func32, Tryz.ntmps32
  go_wp2_with fail
  obtain ⟨B, hB⟩ : ∃ B, B = w.heap.size := ⟨_, rfl⟩
  have HBw := Lib.hid (show B ≤ w.heap.size by rw [hB]; exact Nat.le_refl _)
  have HBF := Lib.hid (fun W (hb : Below B w W) => show Below w.heap.size w W from by rw [← hB]; exact hb)
  clear hB
  go_loopg [1, 5] L.length (fun gk s1 s5 wr => ∃ (fr : Option Gd) (R D : List (List Mv)) (xs : List SL), gk = R.length ∧ s1 = .string ⟨(frS fr).toArray⟩ ∧ Hid (PathK s.1 fr R) ∧ Hid (L = D ++ R) ∧ Hid (OwnA 39 1 (fun v : SL => [sv v]) B wr s5 xs) ∧ Hid (AlV w (xs.map sv) D) ∧ Hid (Below B w wr))
  case atStart => exact ⟨fr0, L, [], [], rfl, rfl, HL, Lib.hid rfl, Lib.hid (OwnA.nil _ _ _ _ _), Lib.hid ⟨rfl, fun i x ms h => by simp at h⟩, Lib.hid (Below.refl _ _)⟩
  case round =>
    obtain ⟨fr, R, D, xs, rfl, rfl, HPK, HLL, HO, HAV, HW⟩ := hrel
    have HS1 := Lib.hid (HS.out.below (HBF.out _ HW.out))
    cases hfr : fr with
    | none =>
      subst hfr
      have hR : R = [] := by cases HPK.out; rfl
      subst hR
      have hLD : L = D := by have := HLL.out; rw [List.append_nil] at this; exact this
      have hDn : D ≠ [] := by
        intro e
        have := HL.out
        rw [HFR.out, hLD, e] at this
        cases this
      have hxn : xs ≠ [] := by
        intro e
        have := HAV.out.1
        rw [e] at this
        exact hDn (List.eq_nil_of_length_eq_zero this.symm)
      obtain ⟨g, cp, hs5, hg, hrow⟩ := HO.out.row hxn
      have hxl : (xs.map sv).length = xs.length := List.length_map _
      have HRV := Lib.hid (reverse_any 39 B g cp (xs.map sv) wr hrow hg (by
        have a1 := HAV.out.1
        rw [a1, ← hLD]
        have := H1.out
        omega) (fun y hy => by
        obtain ⟨z, _, rfl⟩ := List.mem_map.1 hy
        exact ⟨_, _, _, rfl⟩))
      have HCC := Lib.hid (fun W (hb : Below B w W) (hr : RowV 39 g W (xs.map sv).reverse) => concatM_any 39 g cp (xs.map sv).reverse D.reverse W hr ⟨by simp [← hxl, HAV.out.1], fun i y ms h1 h2 => by
        have hl := HAV.out.1
        have hi : i < (xs.map sv).length := by have := (List.getElem?_eq_some_iff.1 h1).1; simpa using this
        rw [List.getElem?_reverse hi] at h1
        rw [List.getElem?_reverse (by rw [← hl]; exact hi), ← hl] at h2
        exact (HAV.out.2 _ y ms h1 h2).below (HBF.out W hb)⟩ (by rw [List.length_reverse, ← hLD]; have := H1.out; omega) (by rw [List.length_flatten, List.map_reverse, List.sum_reverse, ← List.length_flatten, ← hLD]; exact H2.out))
      rw [hxl] at HRV
      rw [List.length_reverse, hxl] at HCC
      have HLD := Lib.hid hLD
      subst hs5
      clear hLD hDn hxn hrow hxl hg
      go_wp2_with (first | (go_at_call 51; refine HRV.out.mono ?_; rintro e7 w7 ⟨rfl, hr7, hb7⟩; have HC7 := Lib.hid (HCC.out w7 (HW.out.trans hb7) hr7); have HB7 := Lib.hid (HW.out.trans hb7); have HB7X := Lib.hid (show B ≤ w7.heap.size from Nat.le_trans HBw.out HB7.out.size); clear hr7 hb7) | (go_at_call 52; refine HC7.out.mono ?_; rintro e8 w8 ⟨v8, rfl, hm8, hb8⟩))
      go_ret
      exact ⟨_, rfl, by rw [HLD.out]; exact hm8, HBF.out _ (HB7.out.trans (hb8.mono HB7X.out))⟩
    | some c' =>
      subst hfr
      obtain ⟨e, R', he, rfl, rfl, hpk⟩ : ∃ e R', e ∈ s.1 ∧ c' = e.key ∧ R = e.ms :: R' ∧ PathK s.1 e.fr R' := by
        cases HPK.out with
        | cons h1 h2 => exact ⟨_, _, h1, rfl, rfl, h2⟩
      obtain ⟨v, hv0, hmv⟩ := HS.out.al1.mem.2 e he
      have hnd1 : (L1.map (·.1)).Nodup := by
        have := keys_nd HP.out.v1 HP.out.nd
        rw [← HS1.out.al1.keys] at this
        exact this
      have hnd2 : ((l2 s.1).map (·.1)).Nodup := by
        have := keys_nd HP.out.v1 HP.out.nd
        unfold l2
        rw [List.map_map]
        exact this
      have hl2 : (fmG e.key, Value.string ⟨(frS e.fr).toArray⟩) ∈ l2 s.1 := List.mem_map.2 ⟨e, he, rfl⟩
      have yl1 := (mps_lookup_yes (P := Tryz.prog) HS1.out.mp1 Tryz.underlying48 Tryz.underlying9 hnd1 hv0).2
      have YL2 := Lib.hid (fun W (hb : Below B w W) => (mps_lookup_yes (P := Tryz.prog) (HS.out.below (HBF.out _ hb)).mp2 Tryz.underlying49 Tryz.underlying9 hnd2 hl2).2)
      unfold kyS at yl1 YL2
      rw [show fmG e.key = frS (some e.key) from rfl] at yl1 YL2
      obtain ⟨x, hx⟩ := hmv.svx
      subst hx
      simp only [sv] at yl1
      have ze : (frS (some e.key)).isEmpty = false := by
        obtain ⟨x, l, hxl⟩ := fm_ne e.key
        show (fmG e.key).isEmpty = false
        rw [hxl]; rfl
      have g0 := HS1.out.hd.cell 0
      have hsz : w.heap.size ≤ wr.heap.size := HW.out.size
      have HGL := Lib.hid (show gS < w.heap.size from HS.out.hd.lt)
      have HSLX := Lib.hid (show ∀ (W : World), SlA0 (fun v : SL => [sv v]) (W.alloc (.cells #[.slice x.1 x.2.1 x.2.2] 39)) (.slice (some ⟨W.heap.size, 0, none⟩) 1 1) [x] from fun W => ⟨_, 1, rfl, fun j q hq => ⟨_, _, rfl, by
        have hj : j = 0 := by have := (List.getElem?_eq_some_iff.1 hq).1; simp at this; exact this
        subst hj
        simp at hq
        subst hq
        exact (Arr.new W 39 [sv x]).cell 0⟩⟩)
      have hal := HW.out.alloc (show B ≤ wr.heap.size by have := HBw.out; omega) (.cells #[.slice x.1 x.2.1 x.2.2] 39)
      have HAL := Lib.hid hal
      have HO1 := Lib.hid (HO.out.alloc (.cells #[.slice x.1 x.2.1 x.2.2] 39))
      have HSZ := Lib.hid (show B ≤ (wr.alloc (.cells #[.slice x.1 x.2.1 x.2.2] 39)).heap.size by have := hal.size; have := HBw.out; omega)
      have HLX := Lib.hid (show xs.length + 1 ≤ 1000000000 by
        have a1 := HAV.out.1
        have a2 := congrArg List.length HLL.out
        have a3 := H1.out
        simp at a1 a2
        omega)
      have HE := Lib.hid he
      have HMV := Lib.hid hmv
      have HPR := Lib.hid hpk
      have HAV1 := Lib.hid (show ∀ W, Below B w W → (∀ k, k < wr.heap.size → True) → True from fun _ _ _ => trivial)
      clear he hnd1 hnd2 hl2 hv0 hmv hpk hal hsz HAV1
      go_wp2_with (at_builtin; refine wpList_appA0 rfl elV _ _ 96 96 rfl Tryz.underlying96 Tryz.underlying96 rfl HO1.out rfl (HSLX.out _) HLX.out HSZ.out ?_; intro v8 w8 h1 h2 h3 h4; have hb8 := HAL.out.trans h2; have g1 := (HS.out.below (HBF.out _ hb8)).hd.cell 1; have yl2 := YL2.out w8 hb8; have HO8 := Lib.hid h1; have H8 := Lib.hid h2; have HB8 := Lib.hid hb8; clear h1 h2 h3 h4 hb8)
      go_roundg R'.length
      case measure => exact Nat.lt_succ_self _
      case rel =>
        refine ⟨e.fr, R', D ++ [e.ms], xs ++ [x], rfl, rfl, HPR, Lib.hid (by rw [HLL.out, List.append_assoc]; rfl), HO8, Lib.hid ⟨?_, ?_⟩, HB8⟩
        · have := HAV.out.1
          simp at this ⊢
          omega
        · intro i y ms h1 h2
          rw [List.map_append] at h1
          have hl := HAV.out.1
          rcases Nat.lt_or_ge i (xs.map sv).length with hi | hi
          · rw [List.getElem?_append_left hi] at h1
            rw [List.getElem?_append_left (by rw [← hl]; exact hi)] at h2
            exact HAV.out.2 i y ms h1 h2
          · rw [List.getElem?_append_right hi] at h1
            rw [List.getElem?_append_right (by rw [← hl]; exact hi), ← hl] at h2
            cases hj : i - (xs.map sv).length with
            | zero =>
              rw [hj] at h1 h2
              simp at h1 h2
              subst h1; subst h2
              exact HMV.out
            | succ j => rw [hj] at h1; simp at h1
end Go.Proofs.YteliflcbegcdlaaGreatDoor
