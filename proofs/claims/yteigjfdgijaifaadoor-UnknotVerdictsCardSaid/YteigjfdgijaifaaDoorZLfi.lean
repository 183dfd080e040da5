/- package unknot: how many classes there are; when a run finds the unknot (plain). -/
/- package unravellaw45: awake, great. -/
/- The law UnknotFinds: the walk. -/
import Derived.Test.YteigjfdgijaifaaDoorZPlr
import Derived.Test.YteigjfdgijaifaaDoorZGdl
import Derived.Test.YteigjfdgijaifaaDoorZDtr
namespace Go.Proofs.YteigjfdgijaifaaDoor
open Go.RowKit
set_option linter.unusedVariables false

theorem Exq.det {most : Int} {short : Bool} {g : Gd} {r r' : Res} (h : Exq most short g r) (h' : Exq most short g r') : r = r' := by
  cases h with
  | none h =>
    cases h' with
    | none _ => rfl
    | some h1 _ => rw [h] at h1; cases h1
  | some h hr =>
    cases h' with
    | none h1 => rw [h] at h1; cases h1
    | some h1 hr1 =>
      rw [h] at h1
      injection h1 with h1
      subst h1
      exact hr.det hr1
/-! ### sizes -/
theorem app_len {X O Y P : List Int} {k a v : Int} {r : Bool} (hk : k ≠ 4) (h : applyM X O k r a v = (0, Y, P)) : Y.length ≤ X.length := by
  obtain ⟨hv, hr, Y', P', hc, rfl, rfl⟩ := applyM_inv h
  obtain ⟨⟨k1, k4⟩, ⟨a0, a1⟩, _⟩ := hr
  have hlv : (vw r X).length = X.length := vw_length _ _
  rw [vw_length]
  unfold colsL at hc
  by_cases e1 : k = 1
  · rw [if_pos e1] at hc
    injection hc with _ hc
    injection hc with eY eP
    rw [← eY, rotL_length]; omega
  rw [if_neg e1] at hc
  by_cases e2 : k = 2
  · rw [if_pos e2] at hc
    split at hc
    · injection hc with _ hc
      injection hc with eY eP
      rw [← eY, swapL_length]; omega
    · injection hc with hc _; cases hc
  rw [if_neg e2] at hc
  by_cases e3 : k = 3
  · rw [if_pos e3] at hc
    split at hc
    · injection hc with _ hc
      injection hc with eY eP
      have ha : a.toNat < (vw r X).length := by subst e3; simp only [limAt] at a1; simp at a1; omega
      rw [← eY, delL_length _ _ _ ha]; omega
    · injection hc with hc _; cases hc
  · omega
theorem nbrs_len {g z : Gd} {ms : List Mv} (h : VdG g) (hm : (ms, z) ∈ nbrs g) : z.1.length ≤ g.1.length := by
  have one : ∀ m : Mv, m.k ≠ 4 → (ms, z) ∈ tryM g [m] → z.1.length ≤ g.1.length := fun m hk hm => by
    obtain ⟨_, q⟩ := (tryM_one h _ _).1 hm
    exact app_len hk q
  have two : ∀ m m' : Mv, m.k ≠ 4 → m'.k ≠ 4 → (ms, z) ∈ tryM g [m, m'] → z.1.length ≤ g.1.length := fun m m' hk hk' hm => by
    obtain ⟨_, y, q1, q2⟩ := (tryM_two h _ _).1 hm
    exact Nat.le_trans (app_len hk' q2) (app_len hk q1)
  have key : ∀ r, (ms, z) ∈ nbR g r → z.1.length ≤ g.1.length := fun r hm => by
    unfold nbR nb1 nb2 nb3 at hm
    rcases List.mem_append.1 hm with hm | hm
    · rcases List.mem_append.1 hm with hm | hm
      · obtain ⟨i, hi, q⟩ := List.mem_flatMap.1 hm
        unfold rmL at q
        split at q
        · exact one _ (by simp [rmM]) q
        · exact two _ _ (by simp [tuM]) (by simp [rmM]) q
      · obtain ⟨i, hi, q⟩ := List.mem_flatMap.1 hm
        exact one _ (by simp [coM]) q
    · exact two _ _ (by simp [tuM]) (by simp [coM]) hm
  unfold nbrs at hm
  rcases List.mem_append.1 hm with hm | hm
  · exact key _ hm
  · exact key _ hm
theorem alg_len {g0 : Gd} {K : List En} {A : List Gd} (h : Alg g0 K A) : ∀ (n i : Nat) (e : En) (a : Gd), i < n → K[i]? = some e → A[i]? = some a → a.1.length ≤ g0.1.length
  | 0, i, e, a, hi, _, _ => by omega
  | n + 1, i, e, a, hi, hK, hA => by
    obtain ⟨hv, hk, hf⟩ := h.2 i e a hK hA
    rcases hf with ⟨_, _, rfl⟩ | ⟨j, b, e', hj, k1, k2, k3, k4⟩
    · exact Nat.le_refl _
    · exact Nat.le_trans (nbrs_len (h.2 j e' b k1 k2).1 k4) (alg_len h n j e' b (by omega) k1 k2)
/-! ### no room -/
theorem addM_full {most : Int} {s : St} {g : Gd} {fr : Option Gd} {ms : List Mv} (h : addM most s g fr ms = none) : most ≤ (s.1.length : Int) := by
  unfold addM at h
  split at h
  · cases h
  · split at h
    · assumption
    · cases h
theorem addAll_full {most : Int} {fr : Option Gd} : ∀ (l : List (List Mv × Gd)) {s : St}, addAll most fr s l = none → ∃ k s', addAll most fr s (l.take k) = some s' ∧ most ≤ (s'.1.length : Int)
  | [], s, h => by cases h
  | (ms, g) :: t, s, h => by
    unfold addAll at h
    cases h1 : addM most s g fr ms with
    | none => exact ⟨0, s, rfl, addM_full h1⟩
    | some s1 =>
      rw [h1] at h
      obtain ⟨k, s', k1, k2⟩ := addAll_full t h
      refine ⟨k + 1, s', ?_, k2⟩
      rw [List.take_succ_cons]
      unfold addAll
      rw [h1]
      exact k1
theorem addAll_stp {most : Int} {fr : Option Gd} : ∀ (l : List (List Mv × Gd)) {s s' : St}, StP s → (∀ p ∈ l, VdG p.2) → addAll most fr s l = some s' → StP s'
  | [], s, s', hs, _, ha => by injection ha with ha; subst ha; exact hs
  | (ms, z) :: t, s, s', hs, hv, ha => by
    unfold addAll at ha
    cases h1 : addM most s z fr ms with
    | none => rw [h1] at ha; cases ha
    | some s1 =>
      rw [h1] at ha
      exact addAll_stp t (hs.add (hv (ms, z) (by simp)) h1) (fun p hp => hv p (by simp [hp])) ha
/-- the state that is taken up -/
theorem PlX.take {g0 : Gd} {short : Bool} {s : St} {A : List Gd} {g : Gd} {W : List (List Gd)} (hp : PlX g0 short (fun _ => False) s A) (h : nextM s.2 = some (g, W)) : PlX g0 short (fun a => a = g) (s.1, W) A ∧ g ∈ A := by
  obtain ⟨k, t, e1, e2⟩ := nextM_get h
  refine ⟨⟨hp.alg, fun l hl g' hg' => ?_, fun a ha => ?_⟩, hp.wt _ (List.mem_of_getElem? e1) g (by simp)⟩
  · rw [e2] at hl
    rcases List.mem_or_eq_of_mem_set hl with q | q
    · exact hp.wt l q g' hg'
    · subst q; exact hp.wt _ (List.mem_of_getElem? e1) g' (by simp [hg'])
  · rcases hp.dn a ha with ⟨l, hl, hal⟩ | q | q
    · by_cases e : a = g
      · exact .inr (.inl e)
      · left
        obtain ⟨i, hi⟩ := List.getElem?_of_mem hl
        by_cases ei : i = k
        · subst ei
          rw [e1] at hi
          injection hi with hi
          subst hi
          have hat : a ∈ t := by
            rcases List.mem_cons.1 hal with q | q
            · exact absurd q e
            · exact q
          exact ⟨t, by rw [e2]; exact List.mem_of_getElem? (List.getElem?_set_self (List.getElem?_eq_some_iff.1 e1).1), hat⟩
        · exact ⟨l, by rw [e2]; exact List.mem_of_getElem? ((List.getElem?_set_ne (Ne.symm ei)).trans hi), hal⟩
    · exact q.elim
    · exact .inr (.inr q)
/-- where there is no room, there are as many classes as the budget -/
theorem Run.full {most : Int} {short : Bool} {g0 : Gd} {s : St} {r : Res} (h : Run most short s r) : r = .fuel → ∀ {A : List Gd}, PlX g0 short (fun _ => False) s A → StP s → ∃ K A', Alg g0 K A' ∧ (K.map En.key).Nodup ∧ most ≤ (K.length : Int) := by
  induction h with
  | done h => intro e; cases e
  | found h hsh h2 => intro e; cases e
  | @fuel s g W h hsh ha =>
    intro _ A hp hs
    obtain ⟨hs1, hvg⟩ := hs.next h
    obtain ⟨hpx, hgA⟩ := hp.take h
    obtain ⟨k, s', k1, k2⟩ := addAll_full _ ha
    have hsub : ∀ p ∈ (nbrs g).take k, p ∈ nbrs g := fun p hp => List.mem_of_mem_take hp
    obtain ⟨A', q1, _⟩ := PlX.all ((nbrs g).take k) hpx hs1.l2 hvg hgA hsub k1
    have hst := addAll_stp _ hs1 (fun p hp => nbrs_vd hvg (show (p.1, p.2) ∈ nbrs g from hsub p hp)) k1
    exact ⟨s'.1, A', q1.alg, hst.nd, k2⟩
  | @step s s' g W r h hsh ha hr ih =>
    intro e A hp hs
    obtain ⟨hs1, hvg⟩ := hs.next h
    obtain ⟨hpx, hgA⟩ := hp.take h
    obtain ⟨A', q1, q2, q3, _, q5⟩ := PlX.all (nbrs g) hpx hs1.l2 hvg hgA (fun p hp => hp) ha
    refine ih e (A := A') ⟨q1.alg, q1.wt, fun a ha => ?_⟩ (addAll_stp _ hs1 (fun p hp => nbrs_vd hvg (show (p.1, p.2) ∈ nbrs g from hp)) ha)
    rcases q1.dn a ha with q | q | q
    · exact .inl q
    · subst q
      exact .inr (.inr ⟨hsh, fun ms z hz => q3 (ms, z) hz⟩)
    · exact .inr (.inr q)
theorem len_subG {α : Type} [DecidableEq α] : ∀ (l X : List α), l.Nodup → (∀ x ∈ l, x ∈ X) → l.length ≤ X.length
  | [], X, _, _ => Nat.zero_le _
  | a :: l, X, hn, hs => by
    rw [List.nodup_cons] at hn
    have ha := hs a (by simp)
    have := len_subG l (X.erase a) hn.2 fun x hx => (List.mem_erase_of_ne (fun e : x = a => hn.1 (by rw [← e]; exact hx))).2 (hs x (by simp [hx]))
    rw [List.length_erase_of_mem ha] at this
    have := List.length_pos_of_mem ha
    simp; omega
/-- the grids of size n whose first X lies in the first row, and more -/
def gAll (n : Nat) : List Gd := (pk (n - 1) ((rng n).erase 0)).flatMap fun X => (pk n (rng n)).map fun O => ((0 :: X, O) : Gd)
theorem mem_gAll {g : Gd} (h : VdG g) (h0 : gt g.1 0 = 0) : g ∈ gAll g.1.length := by
  obtain ⟨X, O⟩ := g
  have hl := h.len
  have h2 := h.two
  simp only at h0 hl h2
  cases X with
  | nil => simp at h2
  | cons x X =>
    have hx0 : x = 0 := h0
    subst hx0
    have pX := h.pX
    have pO := h.pO
    simp only at pX pO
    have hn := List.nodup_cons.1 pX.2
    refine List.mem_flatMap.2 ⟨X, ?_, List.mem_map.2 ⟨O, ?_, rfl⟩⟩
    · simp only [List.length_cons, Nat.add_sub_cancel]
      refine mem_pk X _ hn.2 fun y hy => ?_
      refine (List.mem_erase_of_ne (fun e : y = 0 => hn.1 (by rw [← e]; exact hy))).2 (mem_rng ?_)
      have := pX.1 y (by simp [hy])
      simpa using this
    · simp only [hl]
      refine mem_pk O _ pO.2 fun y hy => mem_rng (pO.1 y hy)
def gUpto5 : List Gd := gAll 2 ++ (gAll 3 ++ (gAll 4 ++ gAll 5))
def gUpto3 : List Gd := gAll 2 ++ gAll 3
set_option maxRecDepth 100000 in
theorem gUpto5_len : gUpto5.length = 3038 := by decide +kernel
set_option maxRecDepth 100000 in
theorem gUpto3_len : gUpto3.length = 14 := by decide +kernel
theorem Exq.room {most : Int} {short : Bool} {g : Gd} (hv : VdG g) (L : List Gd) (hL : ∀ c : Gd, VdG c → gt c.1 0 = 0 → c.1.length ≤ g.1.length → c ∈ L) (hm : (L.length : Int) < most) : ¬ Exq most short g .fuel := by
  intro h
  have key : ∃ K A', Alg g K A' ∧ (K.map En.key).Nodup ∧ most ≤ (K.length : Int) := by
    cases h with
    | none h => exact ⟨[], [], ⟨rfl, fun i e a h => by simp at h⟩, by simp, by have := addM_full h; simpa [st00] using this⟩
    | some h hr =>
      obtain ⟨A, h1, _⟩ := pl_start (short := short) hv h
      exact hr.full rfl h1 (StP.start.add hv h)
  obtain ⟨K, A, hA, hn, hk⟩ := key
  have := len_subG (K.map En.key) L hn fun c hc => by
    obtain ⟨e, he, rfl⟩ := List.mem_map.1 hc
    obtain ⟨i, hi⟩ := List.getElem?_of_mem he
    have hlt : i < A.length := by rw [hA.1]; exact (List.getElem?_eq_some_iff.1 hi).1
    obtain ⟨q1, q2, _⟩ := hA.2 i e _ hi (List.getElem?_eq_getElem hlt)
    have q3 := alg_len hA (i + 1) i e _ (by omega) hi (List.getElem?_eq_getElem hlt)
    rw [← q2]
    exact hL _ (lstM_vd q1) (lst0 q1) (by rw [lstM_len q1]; exact q3)
  rw [List.length_map] at this
  omega
theorem room5 {short : Bool} {g : Gd} (hv : VdG g) (h5 : g.1.length ≤ 5) {most : Int} (hm : 3038 < most) : ¬ Exq most short g .fuel := by
  refine Exq.room hv gUpto5 (fun c hc h0 hl => ?_) (by rw [gUpto5_len]; exact hm)
  have h2 := hc.two
  have hmem := mem_gAll hc h0
  unfold gUpto5
  have : c.1.length = 2 ∨ c.1.length = 3 ∨ c.1.length = 4 ∨ c.1.length = 5 := by omega
  rcases this with e | e | e | e <;> rw [e] at hmem
  · exact List.mem_append_left _ hmem
  · exact List.mem_append_right _ (List.mem_append_left _ hmem)
  · exact List.mem_append_right _ (List.mem_append_right _ (List.mem_append_left _ hmem))
  · exact List.mem_append_right _ (List.mem_append_right _ (List.mem_append_right _ hmem))
theorem room3 {short : Bool} {g : Gd} (hv : VdG g) (h5 : g.1.length ≤ 3) {most : Int} (hm : 14 < most) : ¬ Exq most short g .fuel := by
  refine Exq.room hv gUpto3 (fun c hc h0 hl => ?_) (by rw [gUpto3_len]; exact hm)
  have h2 := hc.two
  have hmem := mem_gAll hc h0
  unfold gUpto3
  have : c.1.length = 2 ∨ c.1.length = 3 := by omega
  rcases this with e | e <;> rw [e] at hmem
  · exact List.mem_append_left _ hmem
  · exact List.mem_append_right _ hmem
/-! ### when the unknot is found -/
/-- what was done is closed -/
theorem Dn.closed {g0 : Gd} {short : Bool} {K : List En} {A : List Gd} (hA : Alg g0 K A) (hd : ∀ a ∈ A, ¬ (short = true ∧ a.1.length = 2) ∧ ∀ ms z, (ms, z) ∈ nbrs a → hasK K (lstM z) = true) : ∀ {c c' : Gd}, RC c c' → (∃ a ∈ A, lstM a = c) → ∃ a ∈ A, lstM a = c' := by
  intro c c' h
  induction h with
  | refl a => exact fun h => h
  | @head a b c hf _ ih =>
    rintro ⟨x, hx, rfl⟩
    refine ih ?_
    obtain ⟨i, e, k1, k2, k3, k4⟩ := hA.get hx
    have hf2 : Fol x b := (Fol.tl k4 (Tl.least k4)).2 hf
    obtain ⟨ms, z, hz, rfl⟩ := fol_nbrs k4 hf2
    obtain ⟨e', he', hk'⟩ := hasK_yes ((hd x hx).2 ms z hz)
    obtain ⟨j, hj⟩ := List.getElem?_of_mem he'
    have hlt : j < A.length := by rw [hA.1]; exact (List.getElem?_eq_some_iff.1 hj).1
    obtain ⟨_, q2, _⟩ := hA.2 j e' _ hj (List.getElem?_eq_getElem hlt)
    exact ⟨A[j], List.getElem_mem hlt, by rw [q2, hk']⟩
theorem alg_first {g0 : Gd} {K : List En} {A : List Gd} (h : Alg g0 K A) (hn : A ≠ []) : g0 ∈ A := by
  cases A with
  | nil => exact absurd rfl hn
  | cons a A =>
    have hlt : 0 < K.length := by rw [← h.1]; simp
    obtain ⟨_, _, hf⟩ := h.2 0 _ a (List.getElem?_eq_getElem hlt) rfl
    rcases hf with ⟨_, _, rfl⟩ | ⟨j, b, e', hj, _⟩
    · simp
    · omega
theorem no_done {g0 : Gd} {K : List En} (hv : VdG g0) (h6 : g0.1.length ≤ 6) (hc : comp g0.1 g0.2 = 1) (hd : DU g0) : ¬ Dn g0 true K := by
  rintro ⟨A, hA, hn, hall⟩
  obtain ⟨c, c1, c2⟩ := to_two g0.1.length g0 hv rfl h6 hc hd
  obtain ⟨a, ha, rfl⟩ := Dn.closed hA hall c1 ⟨g0, alg_first hA hn, rfl⟩
  obtain ⟨i, e, k1, k2, k3, k4⟩ := hA.get ha
  rw [lstM_len k4] at c2
  exact (hall a ha).1 ⟨rfl, c2⟩
theorem pls_same {g z : Gd} {ms : List Mv} (h : Pls g ms z) : Same2 g z := (play_same ms 0 g.1 g.2 z.1 z.2 (-1) (h.1 0) (by omega)).1
theorem pls_vd : ∀ {ms : List Mv} {g z : Gd}, VdG g → Pls g ms z → VdG z
  | [], g, z, hv, h => by
    have := h.1 0
    injection this with _ this
    injection this with e1 this
    injection this with e2 _
    have : g = z := Prod.ext e1 e2
    rw [← this]; exact hv
  | m :: ms, g, z, hv, h => by
    have h0 := h.1 0
    rw [playFrom] at h0
    split at h0
    · next he =>
      have happ : applyM g.1 g.2 m.k m.rows m.a m.v = (0, (m.app g.1 g.2).2.1, (m.app g.1 g.2).2.2) := by rw [← he]; rfl
      refine pls_vd (ms := ms) (g := ((m.app g.1 g.2).2.1, (m.app g.1 g.2).2.2)) (applyM_res_vd happ) ⟨fun i => ?_, fun m' hm' => h.2 m' (by simp [hm'])⟩
      have hi := h.1 (i - 1)
      cases i with
      | zero =>
        have h1 := h.1 0
        rw [playFrom, if_pos he] at h1
        have key : ∀ (ms : List Mv) (i j : Nat) (X O Y P : List Int), playFrom i X O ms = (0, Y, P, -1) → playFrom j X O ms = (0, Y, P, -1) := by
          intro ms
          induction ms with
          | nil => intro i j X O Y P h; exact h
          | cons m ms ih =>
            intro i j X O Y P h
            rw [playFrom] at h ⊢
            split at h
            · next h0 => rw [if_pos h0]; exact ih _ _ _ _ _ _ h
            · injection h with _ h
              injection h with _ h
              injection h with _ h
              omega
        exact key ms 1 0 _ _ _ _ h1
      | succ i =>
        have h1 := h.1 i
        rw [playFrom, if_pos he] at h1
        exact h1
    · injection h0 with _ h0
      injection h0 with _ h0
      injection h0 with _ h0
      omega
/-- the unknot is found: exactly where the determinant is that of the unknot -/
theorem found_du {g0 : Gd} {K : List En} {c : Gd} (hv : VdG g0) (h : Fd g0 K c) : DU g0 := by
  obtain ⟨A, a, hA, ha, h2, rfl⟩ := h
  obtain ⟨i, e, k1, k2, k3, k4⟩ := hA.get ha
  have key : ∀ (n i : Nat) (e : En) (a : Gd), i < n → K[i]? = some e → A[i]? = some a → Same2 g0 a := by
    intro n
    induction n with
    | zero => intro i e a hi; omega
    | succ n ih =>
      intro i e a hi hK hA'
      obtain ⟨_, _, hf⟩ := hA.2 i e a hK hA'
      rcases hf with ⟨_, _, rfl⟩ | ⟨j, b, e', hj, q1, q2, q3, q4⟩
      · exact rfl
      · exact (ih j e' b (by omega) q1 q2).trans (pls_same (nbrs_pls (hA.2 j e' b q1 q2).1 q4).1)
  exact (DU_two k4 h2).same (key (i + 1) i e a (by omega) k1 k2).symm
end Go.Proofs.YteigjfdgijaifaaDoor

namespace Go.Proofs.YteigjfdgijaifaaDoor
open Go.RowKit Go.Shelf
set_option linter.unusedVariables false

def T5 : Gd := ([0, 1, 2, 3, 4], [2, 3, 4, 0, 1])
def U3 : Gd := ([0, 2, 1], [2, 1, 0])
theorem addAll_known {most : Int} {fr : Option Gd} : ∀ (l : List (List Mv × Gd)) (s : St), (∀ p ∈ l, hasK s.1 (lstM p.2) = true) → addAll most fr s l = some s
  | [], s, _ => rfl
  | (ms, g) :: t, s, h => by
    unfold addAll addM
    rw [if_pos (h (ms, g) (by simp))]
    exact addAll_known t s fun p hp => h p (by simp [hp])
set_option maxRecDepth 100000 in
theorem tre_all : (nbrs T5).all (fun p => decide (lstM p.2 = lstM T5)) = true := by decide +kernel
theorem vd_T5 : VdG T5 := (validB_iff _ _).1 (by decide +kernel)
theorem vd_U3 : VdG U3 := (validB_iff _ _).1 (by decide +kernel)
theorem cp_T5 : comp T5.1 T5.2 = 1 := by decide +kernel
theorem cp_U3 : comp U3.1 U3.2 = 1 := by decide +kernel
set_option maxRecDepth 100000 in
theorem du_U3 : DU U3 := by decide +kernel
theorem exq_tre : Exq 1000 true T5 (.done [⟨lstM T5, [], none⟩]) := by
  refine .some (s := ([⟨lstM T5, [], none⟩], st00.2.modify 5 (· ++ [T5]))) rfl ?_
  refine .step (g := T5) (W := st00.2) (s' := ([⟨lstM T5, [], none⟩], st00.2)) rfl (by rintro ⟨_, h⟩; exact absurd h (by decide)) (addAll_known _ _ fun p hp => ?_) (.done rfl)
  have := List.all_eq_true.1 tre_all p hp
  have := of_decide_eq_true this
  rw [this]
  exact List.any_eq_true.2 ⟨⟨lstM T5, [], none⟩, by simp, by simp⟩
theorem decide_tre (va vb : Value) (w : World) (hX : Ints w va T5.1) (hO : Ints w vb T5.2) (ht : Tb w) :
    Calls Tryd.prog 10 #[.agg #[va, vb], .int .i64 1000] w fun e w' => e = .returned (.tuple #[.agg #[.bool false, .slice none 0 0, .int .i64 1], .int .i64 0]) ∧ Below w.heap.size w w' := by
  refine (Decide_any va vb T5.1 T5.2 1000 w hX hO (by decide) (by decide) (by decide) ht).mono ?_
  rintro e w' ⟨hb, hc⟩
  rcases hc with ⟨hv, _⟩ | ⟨_, hc, _⟩ | ⟨_, _, r, hr, hc⟩
  · exact absurd vd_T5 hv
  · rw [show comp (T5.1, T5.2).1 (T5.1, T5.2).2 = 1 from cp_T5] at hc; omega
  · have := Exq.det (g := T5) hr exq_tre
    subst this
    rcases hc with ⟨h, _⟩ | ⟨K, h, rfl⟩ | ⟨K, c, L, a, v, h, _⟩
    · cases h
    · injection h with h
      subst h
      exact ⟨rfl, hb⟩
    · cases h
theorem decide_u3 (va vb : Value) (w : World) (hX : Ints w va U3.1) (hO : Ints w vb U3.2) (ht : Tb w) :
    Calls Tryd.prog 10 #[.agg #[va, vb], .int .i64 1000] w fun e w' => ∃ A n c, e = .returned (.tuple #[.agg #[.bool true, .slice A (n + 1) c, .int .i64 0], .int .i64 0]) ∧ Below w.heap.size w w' := by
  refine (Decide_any va vb U3.1 U3.2 1000 w hX hO (by decide) (by decide) (by decide) ht).mono ?_
  rintro e w' ⟨hb, hc⟩
  rcases hc with ⟨hv, _⟩ | ⟨_, hc, _⟩ | ⟨_, _, r, hr, hc⟩
  · exact absurd vd_U3 hv
  · rw [show comp (U3.1, U3.2).1 (U3.1, U3.2).2 = 1 from cp_U3] at hc; omega
  · rcases hc with ⟨rfl, _⟩ | ⟨K, rfl, _⟩ | ⟨K, c, L, a, v, rfl, _, _, hp, h2, hm, rfl⟩
    · exact absurd hr (room3 (g := U3) vd_U3 (by decide) (by decide))
    · exact absurd ((Exq.pl (g := U3) vd_U3 hr).1 K rfl) (no_done vd_U3 (by decide) cp_U3 du_U3)
    · cases hl : L.reverse.flatten with
      | nil =>
        rw [hl] at hp
        have := hp.1 0
        injection this with _ this
        injection this with e1 _
        rw [← e1] at h2
        cases h2
      | cons m ms =>
        rw [hl] at hm
        obtain ⟨A, c', rfl, _⟩ := hm
        exact ⟨A, ms.length, c', rfl, hb⟩
set_option maxHeartbeats 2000000 in
set_option maxRecDepth 100000 in
theorem great45_any (A A2 : Option Addr) (n c m d : Nat) (k : Int) (w : World) :
    Calls Tryd.prog 9 #[.agg #[.slice A n c, .slice A2 m d], .int .i64 k] w fun e w' => e = .returned (.bool (decide (k < (n : Int)) || decide (k < (m : Int)))) ∧ Below w.heap.size w w' := by
  have HB := Lib.hid (show Below w.heap.size w (w.alloc (.cells #[.slice A n c, .slice A2 m d] 26)) from (Below.refl _ w).alloc (Nat.le_refl _) _)
  by_cases h1 : k < (n : Int)
  · go_enter Tryd.func9, Tryd.ntmps9
    go_wp2_with fail
    go_ret
    exact ⟨by simp [h1], HB.out⟩
  · by_cases h2 : k < (m : Int)
    · go_enter Tryd.func9, Tryd.ntmps9
      go_wp2_with fail
      go_ret
      exact ⟨by simp [h1, h2], HB.out⟩
    · go_enter Tryd.func9, Tryd.ntmps9
      go_wp2_with fail
      go_ret
      exact ⟨by simp [h1, h2], HB.out⟩
set_option maxHeartbeats 4000000 in
set_option maxRecDepth 100000 in
theorem awake45 (w : World) (ht : Tb w) : Calls Tryd.prog 7 #[] w fun e w' => e = .returned (.bool true) ∧ Below w.heap.size w w' := by
  have HT := Lib.hid (fun W (hb : Below w.heap.size w W) => ht.below hb)
  clear ht
  go_enter Tryd.func7, Tryd.ntmps7
  go_wp2_with fail
  have hb1 := ((Below.refl w.heap.size w).alloc (Nat.le_refl _) (.cells #[.int .i64 0, .int .i64 1, .int .i64 2, .int .i64 3, .int .i64 4] 3)).alloc (by simp only [World.size_alloc]; omega) (.cells #[.int .i64 2, .int .i64 3, .int .i64 4, .int .i64 0, .int .i64 1] 3)
  have i1 : Ints ((w.alloc (.cells #[.int .i64 0, .int .i64 1, .int .i64 2, .int .i64 3, .int .i64 4] 3)).alloc (.cells #[.int .i64 2, .int .i64 3, .int .i64 4, .int .i64 0, .int .i64 1] 3)) (.slice (some ⟨w.heap.size, 0, none⟩) 5 5) T5.1 := Ints.of_arr (xs := T5.1) ((Arr.new w 3 (ints T5.1)).alloc _)
  have i2 : Ints ((w.alloc (.cells #[.int .i64 0, .int .i64 1, .int .i64 2, .int .i64 3, .int .i64 4] 3)).alloc (.cells #[.int .i64 2, .int .i64 3, .int .i64 4, .int .i64 0, .int .i64 1] 3)) (.slice (some ⟨w.heap.size + 1, 0, none⟩) 5 5) T5.2 := by
    have := Arr.new (w.alloc (.cells #[.int .i64 0, .int .i64 1, .int .i64 2, .int .i64 3, .int .i64 4] 3)) 3 (ints T5.2)
    simp only [World.size_alloc] at this
    exact Ints.of_arr (xs := T5.2) this
  have HD1 := Lib.hid (decide_tre _ _ _ i1 i2 (HT.out _ hb1))
  have HB1 := Lib.hid hb1
  generalize (w.alloc (.cells #[.int .i64 0, .int .i64 1, .int .i64 2, .int .i64 3, .int .i64 4] 3)).alloc (.cells #[.int .i64 2, .int .i64 3, .int .i64 4, .int .i64 0, .int .i64 1] 3) = w1 at i1 i2 HD1 HB1 ⊢
  clear i1 i2 hb1
  refine HD1.out.mono ?_
  rintro e2 w2 ⟨rfl, hb2⟩
  have HB2 := Lib.hid (HB1.out.trans (hb2.mono HB1.out.size))
  clear hb2 HD1
  go_wp2_with fail
  have hb3 := (((Below.refl w2.heap.size w2).alloc (Nat.le_refl _) (.cells #[.bool false, .slice none 0 0, .int .i64 1] 32)).alloc (by simp only [World.size_alloc]; omega) (.cells #[.int .i64 0, .int .i64 2, .int .i64 1] 3)).alloc (by simp only [World.size_alloc]; omega) (.cells #[.int .i64 2, .int .i64 1, .int .i64 0] 3)
  have i1 : Ints (((w2.alloc (.cells #[.bool false, .slice none 0 0, .int .i64 1] 32)).alloc (.cells #[.int .i64 0, .int .i64 2, .int .i64 1] 3)).alloc (.cells #[.int .i64 2, .int .i64 1, .int .i64 0] 3)) (.slice (some ⟨w2.heap.size + 1, 0, none⟩) 3 3) U3.1 := by
    have := Arr.new (w2.alloc (.cells #[.bool false, .slice none 0 0, .int .i64 1] 32)) 3 (ints U3.1)
    simp only [World.size_alloc] at this
    exact Ints.of_arr (xs := U3.1) (this.alloc _)
  have i2 : Ints (((w2.alloc (.cells #[.bool false, .slice none 0 0, .int .i64 1] 32)).alloc (.cells #[.int .i64 0, .int .i64 2, .int .i64 1] 3)).alloc (.cells #[.int .i64 2, .int .i64 1, .int .i64 0] 3)) (.slice (some ⟨w2.heap.size + 1 + 1, 0, none⟩) 3 3) U3.2 := by
    have := Arr.new ((w2.alloc (.cells #[.bool false, .slice none 0 0, .int .i64 1] 32)).alloc (.cells #[.int .i64 0, .int .i64 2, .int .i64 1] 3)) 3 (ints U3.2)
    simp only [World.size_alloc] at this
    exact Ints.of_arr (xs := U3.2) this
  have XV := Lib.hid (show Arr (((w2.alloc (.cells #[.bool false, .slice none 0 0, .int .i64 1] 32)).alloc (.cells #[.int .i64 0, .int .i64 2, .int .i64 1] 3)).alloc (.cells #[.int .i64 2, .int .i64 1, .int .i64 0] 3)) w2.heap.size 32 [.bool false, .slice none 0 0, .int .i64 1] from ((Arr.new w2 32 [_, _, _]).alloc _).alloc _)
  have HD2 := Lib.hid (decide_u3 _ _ _ i1 i2 (HT.out _ (HB2.out.trans (hb3.mono HB2.out.size))))
  have HB3 := Lib.hid (HB2.out.trans (hb3.mono HB2.out.size))
  generalize ((w2.alloc (.cells #[.bool false, .slice none 0 0, .int .i64 1] 32)).alloc (.cells #[.int .i64 0, .int .i64 2, .int .i64 1] 3)).alloc (.cells #[.int .i64 2, .int .i64 1, .int .i64 0] 3) = w3 at i1 i2 HD2 XV HB3 ⊢
  clear i1 i2 hb3
  refine HD2.out.mono ?_
  rintro e4 w4 ⟨A, n, c, rfl, hb4⟩
  have XV4 := (XV.out.below hb4 XV.out.lt).alloc (.cells #[.bool true, .slice A (n + 1) c, .int .i64 0] 32)
  have y0 := XV4.cell 0
  have y1 := XV4.cell 1
  have y2 := XV4.cell 2
  have HB4 := Lib.hid (HB3.out.trans (hb4.mono HB3.out.size))
  clear hb4 HD2 XV4
  have zn : (0 : Int) < (n : Int) + 1 := by omega
  go_wp2_with fail
  go_ret
  exact ⟨rfl, HB4.out.alloc HB4.out.size _⟩
end Go.Proofs.YteigjfdgijaifaaDoor

namespace Go.Proofs.YteigjfdgijaifaaDoor
open Go.RowKit Go.Shelf
set_option linter.unusedVariables false

theorem playFrom_ok : ∀ (ms : List Mv) (i : Nat) (X O : List Int), Vd X O → (playFrom i X O ms).1 = 0 →
    VdG ((playFrom i X O ms).2.1, (playFrom i X O ms).2.2.1) ∧ Same2 (X, O) ((playFrom i X O ms).2.1, (playFrom i X O ms).2.2.1) ∧ comp (playFrom i X O ms).2.1 (playFrom i X O ms).2.2.1 = comp X O
  | [], i, X, O, hv, _ => ⟨hv, rfl, rfl⟩
  | m :: ms, i, X, O, hv, h => by
    rw [playFrom] at h ⊢
    by_cases h0 : (m.app X O).1 = 0
    · rw [if_pos h0] at h ⊢
      have happ : applyM X O m.k m.rows m.a m.v = (0, (m.app X O).2.1, (m.app X O).2.2) := by rw [← h0]; rfl
      obtain ⟨a, b, c⟩ := playFrom_ok ms (i + 1) _ _ (applyM_res_vd happ) h
      exact ⟨a, (apply_same happ).trans b, c.trans (comp_apply happ)⟩
    · rw [if_neg h0] at h
      exact absurd h h0
def G2 : Gd := ([0, 1], [1, 0])
theorem vd_G2 : VdG G2 := (validB_iff _ _).1 (by decide +kernel)
theorem cp_G2 : comp G2.1 G2.2 = 1 := by decide +kernel
theorem finds_ok {ms : List Mv} (h : (playM G2.1 G2.2 ms).1 = 0) : VdG ((playM G2.1 G2.2 ms).2.1, (playM G2.1 G2.2 ms).2.2.1) ∧ DU ((playM G2.1 G2.2 ms).2.1, (playM G2.1 G2.2 ms).2.2.1) ∧ comp (playM G2.1 G2.2 ms).2.1 (playM G2.1 G2.2 ms).2.2.1 = 1 := by
  unfold playM at h ⊢
  rw [if_neg (by rw [(validB_iff _ _).2 vd_G2]; simp)] at h ⊢
  obtain ⟨a, b, c⟩ := playFrom_ok ms 0 _ _ vd_G2 h
  exact ⟨a, (DU_two vd_G2 rfl).same b, c.trans cp_G2⟩
theorem pls_play {g z : Gd} {ms : List Mv} (hv : VdG g) (h : Pls g ms z) : playM g.1 g.2 ms = (0, z.1, z.2, -1) := by
  unfold playM
  rw [if_neg (by rw [(validB_iff _ _).2 hv]; simp)]
  exact h.1 0
theorem ints_slice {w : World} {A : Option Addr} {n c : Nat} {xs : List Int} (h : Ints w (.slice A n c) xs) : n = xs.length := by
  obtain ⟨A0, c0, e, _⟩ := h
  injection e
set_option maxHeartbeats 4000000 in
set_option maxRecDepth 100000 in
theorem finds_law (A : Option Addr) (n c : Nat) (ms : List Mv) (w : World) (hm : Moves w (.slice A n c) ms) (ht : Tb w) :
    Calls Tryd.prog 3 #[.slice A n c] w fun e w' => e = .returned (.bool true) ∧ Below w.heap.size w w' := by
  have HT := Lib.hid (fun W (hb : Below w.heap.size w W) => ht.below hb)
  have HM := Lib.hid (fun W (hb : Below w.heap.size w W) => hm.below hb)
  have HAW := Lib.hid (awake45 w ht)
  have hn : n = ms.length := by obtain ⟨A0, c0, e, _⟩ := hm; injection e
  have HN := Lib.hid hn
  clear ht hm hn
  go_enter Tryd.func3, Tryd.ntmps3
  by_cases h40 : 40 < n
  · have z1 : (40 : Int) < (n : Int) := by omega
    go_wp2_with (go_at_call 7; refine HAW.out.mono ?_; rintro e1 w1 ⟨rfl, hb1⟩)
    go_ret
    exact ⟨rfl, hb1⟩
  have z1 : ¬ (40 : Int) < (n : Int) := by omega
  go_wp2_with fail
  refine HAW.out.mono ?_
  rintro e1 w1 ⟨rfl, hb1⟩
  go_wp2_with fail
  have hal := ((Below.refl w1.heap.size w1).alloc (Nat.le_refl _) (.cells #[.int .i64 0, .int .i64 1] 3)).alloc (by simp only [World.size_alloc]; omega) (.cells #[.int .i64 1, .int .i64 0] 3)
  have i1 : Ints ((w1.alloc (.cells #[.int .i64 0, .int .i64 1] 3)).alloc (.cells #[.int .i64 1, .int .i64 0] 3)) (.slice (some ⟨w1.heap.size, 0, none⟩) 2 2) G2.1 := Ints.of_arr (xs := G2.1) ((Arr.new w1 3 (ints G2.1)).alloc _)
  have i2 : Ints ((w1.alloc (.cells #[.int .i64 0, .int .i64 1] 3)).alloc (.cells #[.int .i64 1, .int .i64 0] 3)) (.slice (some ⟨w1.heap.size + 1, 0, none⟩) 2 2) G2.2 := by
    have := Arr.new (w1.alloc (.cells #[.int .i64 0, .int .i64 1] 3)) 3 (ints G2.2)
    simp only [World.size_alloc] at this
    exact Ints.of_arr (xs := G2.2) this
  have HB2 := Lib.hid (hb1.trans (hal.mono hb1.size))
  have HPL := Lib.hid (play_any _ _ (.slice A n c) G2.1 G2.2 ms _ i1 i2 (HM.out _ HB2.out) (by decide) (by decide) (by have := HN.out; omega))
  generalize (w1.alloc (.cells #[.int .i64 0, .int .i64 1] 3)).alloc (.cells #[.int .i64 1, .int .i64 0] 3) = w2 at i1 i2 HPL HB2 ⊢
  clear i1 i2 hal hb1 HAW
  refine HPL.out.mono ?_
  rintro e3 w3 ⟨hb3, A0, n0, c0, A1, n1, c1, rfl, j0, j1⟩
  obtain ⟨r, hr⟩ : ∃ r, r = playM G2.1 G2.2 ms := ⟨_, rfl⟩
  have HOK := Lib.hid (fun (h : r.1 = 0) => finds_ok (ms := ms) (by rw [← hr]; exact h))
  rw [← hr] at j0 j1 HOK ⊢
  have HB3 := Lib.hid (HB2.out.trans (hb3.mono HB2.out.size))
  have HJ0 := Lib.hid j0
  have HJ1 := Lib.hid j1
  have hn0 := ints_slice j0
  have hn1 := ints_slice j1
  have HN0 := Lib.hid hn0
  have HN1 := Lib.hid hn1
  clear hb3 HPL hr j0 j1 hn0 hn1
  obtain ⟨er, her⟩ : ∃ x, x = r.1 := ⟨_, rfl⟩
  have HER := Lib.hid her
  rw [← her] at ⊢
  clear her
  by_cases h0 : er = 0
  · have HE0 := Lib.hid h0
    subst h0
    obtain ⟨hvd, hdu, hcp⟩ := HOK.out HER.out.symm
    have HVD := Lib.hid hvd
    have HDU := Lib.hid hdu
    have HCP := Lib.hid hcp
    have hll := hvd.len
    simp only at hll
    have HLL := Lib.hid hll
    clear hvd hdu hcp hll HOK
    have HB4 := Lib.hid (HB3.out.trans (((Below.refl w3.heap.size w3).alloc (Nat.le_refl _) (.cells #[.slice A0 n0 c0, .slice A1 n1 c1] 26)).mono HB3.out.size))
    have XG := Lib.hid (show Arr (w3.alloc (.cells #[.slice A0 n0 c0, .slice A1 n1 c1] 26)) w3.heap.size 26 [.slice A0 n0 c0, .slice A1 n1 c1] from Arr.new w3 _ [_, _])
    have hal := (Below.refl w3.heap.size w3).alloc (Nat.le_refl _) (.cells #[.slice A0 n0 c0, .slice A1 n1 c1] 26)
    have HI0 := Lib.hid (HJ0.out.below hal)
    have HI1 := Lib.hid (HJ1.out.below hal)
    clear hal
    go_upto_region 6 with fail
    generalize w3.alloc (.cells #[.slice A0 n0 c0, .slice A1 n1 c1] 26) = w4 at HB4 XG HI0 HI1 ⊢
    generalize w3.heap.size = bG at XG ⊢
    have y0 := XG.out.cell 0
    have y1 := XG.out.cell 1
    have hg := great45_any A0 A1 n0 c0 n1 c1 6 w4
    by_cases h6 : 6 < n0
    · rw [show (decide ((6 : Int) < (n0 : Int)) || decide ((6 : Int) < (n1 : Int))) = true by rw [decide_eq_true (show (6 : Int) < (n0 : Int) by omega)]; rfl] at hg
      have HG := Lib.hid hg
      clear hg
      go_wp2_with (go_at_call 9; refine HG.out.mono ?_; rintro e5 w5 ⟨rfl, hb5⟩)
      go_ret
      exact ⟨rfl, HB4.out.trans (hb5.mono HB4.out.size)⟩
    · rw [show (decide ((6 : Int) < (n0 : Int)) || decide ((6 : Int) < (n1 : Int))) = false by rw [decide_eq_false (show ¬ (6 : Int) < (n0 : Int) by omega), decide_eq_false (show ¬ (6 : Int) < (n1 : Int) by have := HN0.out; have := HN1.out; have := HLL.out; omega)]; rfl] at hg
      have HG := Lib.hid hg
      have H6 := Lib.hid h6
      clear hg h6
      go_upto_region 8 with (go_at_call 9; refine HG.out.mono ?_; rintro e5 w5 ⟨rfl, hb5⟩)
      have XG5 := Lib.hid (XG.out.below hb5 XG.out.lt)
      have HB5 := Lib.hid (HB4.out.trans (hb5.mono HB4.out.size))
      have HD := Lib.hid (Decide_any _ _ r.2.1 r.2.2.1 5000 w5 (HI0.out.below hb5) (HI1.out.below hb5) (by have := HN0.out; have := H6.out; omega) (by have := HN1.out; have := H6.out; have := HLL.out; have := HN0.out; omega) (by decide) (HT.out _ HB5.out))
      have HI05 := Lib.hid (HI0.out.below hb5)
      have HI15 := Lib.hid (HI1.out.below hb5)
      clear hb5 HG XG y0 y1 HI0 HI1
      have y0 := XG5.out.cell 0
      have y1 := XG5.out.cell 1
      go_wp2_with fail
      refine HD.out.mono ?_
      rintro e6 w6 ⟨hb6, hc⟩
      have HB6 := Lib.hid (HB5.out.trans (hb6.mono HB5.out.size))
      have XG6 := Lib.hid (XG5.out.below hb6 XG5.out.lt)
      have HI06 := Lib.hid (HI05.out.below hb6)
      have HI16 := Lib.hid (HI15.out.below hb6)
      clear hb6 HD y0 y1 XG5
      rcases hc with ⟨hv, _⟩ | ⟨_, hc, _⟩ | ⟨_, _, q, hq, hc⟩
      · exact absurd HVD.out hv
      · have := HCP.out; simp only at hc; omega
      · rcases hc with ⟨rfl, rfl⟩ | ⟨K, rfl, _⟩ | ⟨K, cl, L, a, v, rfl, hL, hlf, hp, h2, hmv, rfl⟩
        · clear hq
          go_wp2_with fail
          go_ret
          exact ⟨rfl, HB6.out.alloc HB6.out.size _⟩
        · exact absurd ((Exq.pl (g := (r.2.1, r.2.2.1)) HVD.out hq).1 K rfl) (no_done HVD.out (by have := HN0.out; have := H6.out; simp only; omega) HCP.out HDU.out)
        · have hpl := pls_play (g := (r.2.1, r.2.2.1)) HVD.out hp
          have HPLM := Lib.hid hpl
          have HMV := Lib.hid hmv
          have HA2 := Lib.hid h2
          have HLF := Lib.hid (show L.reverse.flatten.length ≤ 10000 by
            have : L.reverse.flatten.length = L.flatten.length := by rw [List.length_flatten, List.map_reverse, List.sum_reverse, ← List.length_flatten]
            rw [this]
            have h5 : (5000 : Int).toNat = 5000 := rfl
            omega)
          obtain ⟨sx, hsx⟩ := hmv.svx
          subst hsx
          simp only [sv]
          clear hq hL hlf hp h2 hmv hpl
          go_upto_region 11 with fail
          have hal := (Below.refl w6.heap.size w6).alloc (Nat.le_refl _) (.cells #[.bool true, .slice sx.1 sx.2.1 sx.2.2, .int .i64 0] 32)
          have XV := Lib.hid (show Arr (w6.alloc (.cells #[.bool true, .slice sx.1 sx.2.1 sx.2.2, .int .i64 0] 32)) w6.heap.size 32 [.bool true, .slice sx.1 sx.2.1 sx.2.2, .int .i64 0] from Arr.new w6 _ [_, _, _])
          have XG7 := Lib.hid (XG6.out.below hal XG6.out.lt)
          have HB7 := Lib.hid (HB6.out.trans (hal.mono HB6.out.size))
          have HP2 := Lib.hid (play_any _ _ (.slice sx.1 sx.2.1 sx.2.2) r.2.1 r.2.2.1 L.reverse.flatten _ (HI06.out.below hal) (HI16.out.below hal) (HMV.out.below hal) (by have := HN0.out; have := H6.out; omega) (by have := HN1.out; have := H6.out; have := HLL.out; have := HN0.out; omega) HLF.out)
          rw [HPLM.out] at HP2
          generalize w6.alloc (.cells #[.bool true, .slice sx.1 sx.2.1 sx.2.2, .int .i64 0] 32) = w7 at XV XG7 HB7 HP2 ⊢
          generalize w6.heap.size = bV at XV ⊢
          clear hal
          have y0 := XG7.out.cell 0
          have y1 := XG7.out.cell 1
          have y3 := XV.out.cell 1
          go_wp2_with fail
          refine HP2.out.mono ?_
          rintro e8 w8 ⟨hb8, A3, n3, c3, A4, n4, c4, rfl, k0, k1⟩
          have hn3 := ints_slice k0
          simp only at hn3
          have e2 : (n3 : Int) = 2 := by have := HA2.out; omega
          have HB8 := Lib.hid (HB7.out.trans (hb8.mono HB7.out.size))
          have XV8 := (XV.out.below hb8 XV.out.lt).alloc (.cells #[.slice A3 n3 c3, .slice A4 n4 c4] 26)
          have z0 := XV8.cell 0
          clear y0 y1 y3 k0 k1 hn3 hb8 XV8
          go_wp2_with fail
          go_ret
          exact ⟨rfl, HB8.out.alloc HB8.out.size _⟩
  · have z2 : (er != 0) = true := by simp [h0]
    go_wp2_with fail
    go_ret
    exact ⟨rfl, HB3.out.alloc HB3.out.size _⟩
theorem finds_law2 (v : Value) (ms : List Mv) (w : World) (hm : Moves w v ms) (ht : Tb w) : Calls Tryd.prog 3 #[v] w fun e w' => e = .returned (.bool true) ∧ Below w.heap.size w w' := by
  obtain ⟨A, c, rfl, h⟩ := hm
  exact finds_law A _ c ms w ⟨A, c, rfl, h⟩ ht
end Go.Proofs.YteigjfdgijaifaaDoor
