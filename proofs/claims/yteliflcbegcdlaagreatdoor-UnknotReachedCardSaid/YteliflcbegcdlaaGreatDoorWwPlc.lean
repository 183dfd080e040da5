/- package unknot: how many classes there are; when a run finds the unknot (plain). -/
import Derived.Test.YteliflcbegcdlaaGreatDoorWwPlr
import Derived.Test.YteliflcbegcdlaaGreatDoorWwGdl
namespace Go.Proofs.YteliflcbegcdlaaGreatDoor
open Go.RowKit
set_option linter.unusedVariables false
theorem Exq.det {most : Int} {short : Bool} {g : Gd} {r r' : Res} (h : Exq most short g r) (h' : Exq most short g r') : r = r' := by
  cases h with
  | none h =>
    cases h' with
    | none _ => rfl
    | some h1 _ => rw [h] at h1; cases h1
  | some h hr =>
    cases h' with
    | none h1 => rw [h] at h1; cases h1
    | some h1 hr1 =>
      rw [h] at h1
      injection h1 with h1
      subst h1
      exact hr.det hr1
/-! ### sizes -/
theorem app_len {X O Y P : List Int} {k a v : Int} {r : Bool} (hk : k ≠ 4) (h : applyM X O k r a v = (0, Y, P)) : Y.length ≤ X.length := by
  obtain ⟨hv, hr, Y', P', hc, rfl, rfl⟩ := applyM_inv h
  obtain ⟨⟨k1, k4⟩, ⟨a0, a1⟩, _⟩ := hr
  have hlv : (vw r X).length = X.length := vw_length _ _
  rw [vw_length]
  unfold colsL at hc
  by_cases e1 : k = 1
  · rw [if_pos e1] at hc
    injection hc with _ hc
    injection hc with eY eP
    rw [← eY, rotL_length]; omega
  rw [if_neg e1] at hc
  by_cases e2 : k = 2
  · rw [if_pos e2] at hc
    split at hc
    · injection hc with _ hc
      injection hc with eY eP
      rw [← eY, swapL_length]; omega
    · injection hc with hc _; cases hc
  rw [if_neg e2] at hc
  by_cases e3 : k = 3
  · rw [if_pos e3] at hc
    split at hc
    · injection hc with _ hc
      injection hc with eY eP
      have ha : a.toNat < (vw r X).length := by subst e3; simp only [limAt] at a1; simp at a1; omega
      rw [← eY, delL_length _ _ _ ha]; omega
    · injection hc with hc _; cases hc
  · omega
theorem nbrs_len {g z : Gd} {ms : List Mv} (h : VdG g) (hm : (ms, z) ∈ nbrs g) : z.1.length ≤ g.1.length := by
  have one : ∀ m : Mv, m.k ≠ 4 → (ms, z) ∈ tryM g [m] → z.1.length ≤ g.1.length := fun m hk hm => by
    obtain ⟨_, q⟩ := (tryM_one h _ _).1 hm
    exact app_len hk q
  have two : ∀ m m' : Mv, m.k ≠ 4 → m'.k ≠ 4 → (ms, z) ∈ tryM g [m, m'] → z.1.length ≤ g.1.length := fun m m' hk hk' hm => by
    obtain ⟨_, y, q1, q2⟩ := (tryM_two h _ _).1 hm
    exact Nat.le_trans (app_len hk' q2) (app_len hk q1)
  have key : ∀ r, (ms, z) ∈ nbR g r → z.1.length ≤ g.1.length := fun r hm => by
    unfold nbR nb1 nb2 nb3 at hm
    rcases List.mem_append.1 hm with hm | hm
    · rcases List.mem_append.1 hm with hm | hm
      · obtain ⟨i, hi, q⟩ := List.mem_flatMap.1 hm
        unfold rmL at q
        split at q
        · exact one _ (by simp [rmM]) q
        · exact two _ _ (by simp [tuM]) (by simp [rmM]) q
      · obtain ⟨i, hi, q⟩ := List.mem_flatMap.1 hm
        exact one _ (by simp [coM]) q
    · exact two _ _ (by simp [tuM]) (by simp [coM]) hm
  unfold nbrs at hm
  rcases List.mem_append.1 hm with hm | hm
  · exact key _ hm
  · exact key _ hm
theorem alg_len {g0 : Gd} {K : List En} {A : List Gd} (h : Alg g0 K A) : ∀ (n i : Nat) (e : En) (a : Gd), i < n → K[i]? = some e → A[i]? = some a → a.1.length ≤ g0.1.length
  | 0, i, e, a, hi, _, _ => by omega
  | n + 1, i, e, a, hi, hK, hA => by
    obtain ⟨hv, hk, hf⟩ := h.2 i e a hK hA
    rcases hf with ⟨_, _, rfl⟩ | ⟨j, b, e', hj, k1, k2, k3, k4⟩
    · exact Nat.le_refl _
    · exact Nat.le_trans (nbrs_len (h.2 j e' b k1 k2).1 k4) (alg_len h n j e' b (by omega) k1 k2)
/-! ### no room -/
theorem addM_full {most : Int} {s : St} {g : Gd} {fr : Option Gd} {ms : List Mv} (h : addM most s g fr ms = none) : most ≤ (s.1.length : Int) := by
  unfold addM at h
  split at h
  · cases h
  · split at h
    · assumption
    · cases h
theorem addAll_full {most : Int} {fr : Option Gd} : ∀ (l : List (List Mv × Gd)) {s : St}, addAll most fr s l = none → ∃ k s', addAll most fr s (l.take k) = some s' ∧ most ≤ (s'.1.length : Int)
  | [], s, h => by cases h
  | (ms, g) :: t, s, h => by
    unfold addAll at h
    cases h1 : addM most s g fr ms with
    | none => exact ⟨0, s, rfl, addM_full h1⟩
    | some s1 =>
      rw [h1] at h
      obtain ⟨k, s', k1, k2⟩ := addAll_full t h
      refine ⟨k + 1, s', ?_, k2⟩
      rw [List.take_succ_cons]
      unfold addAll
      rw [h1]
      exact k1
theorem addAll_stp {most : Int} {fr : Option Gd} : ∀ (l : List (List Mv × Gd)) {s s' : St}, StP s → (∀ p ∈ l, VdG p.2) → addAll most fr s l = some s' → StP s'
  | [], s, s', hs, _, ha => by injection ha with ha; subst ha; exact hs
  | (ms, z) :: t, s, s', hs, hv, ha => by
    unfold addAll at ha
    cases h1 : addM most s z fr ms with
    | none => rw [h1] at ha; cases ha
    | some s1 =>
      rw [h1] at ha
      exact addAll_stp t (hs.add (hv (ms, z) (by simp)) h1) (fun p hp => hv p (by simp [hp])) ha
/-- the state that is taken up -/
theorem PlX.take {g0 : Gd} {short : Bool} {s : St} {A : List Gd} {g : Gd} {W : List (List Gd)} (hp : PlX g0 short (fun _ => False) s A) (h : nextM s.2 = some (g, W)) : PlX g0 short (fun a => a = g) (s.1, W) A ∧ g ∈ A := by
  obtain ⟨k, t, e1, e2⟩ := nextM_get h
  refine ⟨⟨hp.alg, fun l hl g' hg' => ?_, fun a ha => ?_⟩, hp.wt _ (List.mem_of_getElem? e1) g (by simp)⟩
  · rw [e2] at hl
    rcases List.mem_or_eq_of_mem_set hl with q | q
    · exact hp.wt l q g' hg'
    · subst q; exact hp.wt _ (List.mem_of_getElem? e1) g' (by simp [hg'])
  · rcases hp.dn a ha with ⟨l, hl, hal⟩ | q | q
    · by_cases e : a = g
      · exact .inr (.inl e)
      · left
        obtain ⟨i, hi⟩ := List.getElem?_of_mem hl
        by_cases ei : i = k
        · subst ei
          rw [e1] at hi
          injection hi with hi
          subst hi
          have hat : a ∈ t := by
            rcases List.mem_cons.1 hal with q | q
            · exact absurd q e
            · exact q
          exact ⟨t, by rw [e2]; exact List.mem_of_getElem? (List.getElem?_set_self (List.getElem?_eq_some_iff.1 e1).1), hat⟩
        · exact ⟨l, by rw [e2]; exact List.mem_of_getElem? ((List.getElem?_set_ne (Ne.symm ei)).trans hi), hal⟩
    · exact q.elim
    · exact .inr (.inr q)
/-- where there is no room, there are as many classes as the budget -/
theorem Run.full {most : Int} {short : Bool} {g0 : Gd} {s : St} {r : Res} (h : Run most short s r) : r = .fuel → ∀ {A : List Gd}, PlX g0 short (fun _ => False) s A → StP s → ∃ K A', Alg g0 K A' ∧ (K.map En.key).Nodup ∧ most ≤ (K.length : Int) := by
  induction h with
  | done h => intro e; cases e
  | found h hsh h2 => intro e; cases e
  | @fuel s g W h hsh ha =>
    intro _ A hp hs
    obtain ⟨hs1, hvg⟩ := hs.next h
    obtain ⟨hpx, hgA⟩ := hp.take h
    obtain ⟨k, s', k1, k2⟩ := addAll_full _ ha
    have hsub : ∀ p ∈ (nbrs g).take k, p ∈ nbrs g := fun p hp => List.mem_of_mem_take hp
    obtain ⟨A', q1, _⟩ := PlX.all ((nbrs g).take k) hpx hs1.l2 hvg hgA hsub k1
    have hst := addAll_stp _ hs1 (fun p hp => nbrs_vd hvg (show (p.1, p.2) ∈ nbrs g from hsub p hp)) k1
    exact ⟨s'.1, A', q1.alg, hst.nd, k2⟩
  | @step s s' g W r h hsh ha hr ih =>
    intro e A hp hs
    obtain ⟨hs1, hvg⟩ := hs.next h
    obtain ⟨hpx, hgA⟩ := hp.take h
    obtain ⟨A', q1, q2, q3, _, q5⟩ := PlX.all (nbrs g) hpx hs1.l2 hvg hgA (fun p hp => hp) ha
    refine ih e (A := A') ⟨q1.alg, q1.wt, fun a ha => ?_⟩ (addAll_stp _ hs1 (fun p hp => nbrs_vd hvg (show (p.1, p.2) ∈ nbrs g from hp)) ha)
    rcases q1.dn a ha with q | q | q
    · exact .inl q
    · subst q
      exact .inr (.inr ⟨hsh, fun ms z hz => q3 (ms, z) hz⟩)
    · exact .inr (.inr q)
theorem len_subG {α : Type} [DecidableEq α] : ∀ (l X : List α), l.Nodup → (∀ x ∈ l, x ∈ X) → l.length ≤ X.length
  | [], X, _, _ => Nat.zero_le _
  | a :: l, X, hn, hs => by
    rw [List.nodup_cons] at hn
    have ha := hs a (by simp)
    have := len_subG l (X.erase a) hn.2 fun x hx => (List.mem_erase_of_ne (fun e : x = a => hn.1 (by rw [← e]; exact hx))).2 (hs x (by simp [hx]))
    rw [List.length_erase_of_mem ha] at this
    have := List.length_pos_of_mem ha
    simp; omega
/-- the grids of size n whose first X lies in the first row, and more -/
def gAll (n : Nat) : List Gd := (pk (n - 1) ((rng n).erase 0)).flatMap fun X => (pk n (rng n)).map fun O => ((0 :: X, O) : Gd)
theorem mem_gAll {g : Gd} (h : VdG g) (h0 : gt g.1 0 = 0) : g ∈ gAll g.1.length := by
  obtain ⟨X, O⟩ := g
  have hl := h.len
  have h2 := h.two
  simp only at h0 hl h2
  cases X with
  | nil => simp at h2
  | cons x X =>
    have hx0 : x = 0 := h0
    subst hx0
    have pX := h.pX
    have pO := h.pO
    simp only at pX pO
    have hn := List.nodup_cons.1 pX.2
    refine List.mem_flatMap.2 ⟨X, ?_, List.mem_map.2 ⟨O, ?_, rfl⟩⟩
    · simp only [List.length_cons, Nat.add_sub_cancel]
      refine mem_pk X _ hn.2 fun y hy => ?_
      refine (List.mem_erase_of_ne (fun e : y = 0 => hn.1 (by rw [← e]; exact hy))).2 (mem_rng ?_)
      have := pX.1 y (by simp [hy])
      simpa using this
    · simp only [hl]
      refine mem_pk O _ pO.2 fun y hy => mem_rng (pO.1 y hy)
def gUpto5 : List Gd := gAll 2 ++ (gAll 3 ++ (gAll 4 ++ gAll 5))
def gUpto3 : List Gd := gAll 2 ++ gAll 3
set_option maxRecDepth 100000 in
theorem gUpto5_len : gUpto5.length = 3038 := by decide +kernel
set_option maxRecDepth 100000 in
theorem gUpto3_len : gUpto3.length = 14 := by decide +kernel
theorem Exq.room {most : Int} {short : Bool} {g : Gd} (hv : VdG g) (L : List Gd) (hL : ∀ c : Gd, VdG c → gt c.1 0 = 0 → c.1.length ≤ g.1.length → c ∈ L) (hm : (L.length : Int) < most) : ¬ Exq most short g .fuel := by
  intro h
  have key : ∃ K A', Alg g K A' ∧ (K.map En.key).Nodup ∧ most ≤ (K.length : Int) := by
    cases h with
    | none h => exact ⟨[], [], ⟨rfl, fun i e a h => by simp at h⟩, by simp, by have := addM_full h; simpa [st00] using this⟩
    | some h hr =>
      obtain ⟨A, h1, _⟩ := pl_start (short := short) hv h
      exact hr.full rfl h1 (StP.start.add hv h)
  obtain ⟨K, A, hA, hn, hk⟩ := key
  have := len_subG (K.map En.key) L hn fun c hc => by
    obtain ⟨e, he, rfl⟩ := List.mem_map.1 hc
    obtain ⟨i, hi⟩ := List.getElem?_of_mem he
    have hlt : i < A.length := by rw [hA.1]; exact (List.getElem?_eq_some_iff.1 hi).1
    obtain ⟨q1, q2, _⟩ := hA.2 i e _ hi (List.getElem?_eq_getElem hlt)
    have q3 := alg_len hA (i + 1) i e _ (by omega) hi (List.getElem?_eq_getElem hlt)
    rw [← q2]
    exact hL _ (lstM_vd q1) (lst0 q1) (by rw [lstM_len q1]; exact q3)
  rw [List.length_map] at this
  omega
theorem room5 {short : Bool} {g : Gd} (hv : VdG g) (h5 : g.1.length ≤ 5) {most : Int} (hm : 3038 < most) : ¬ Exq most short g .fuel := by
  refine Exq.room hv gUpto5 (fun c hc h0 hl => ?_) (by rw [gUpto5_len]; exact hm)
  have h2 := hc.two
  have hmem := mem_gAll hc h0
  unfold gUpto5
  have : c.1.length = 2 ∨ c.1.length = 3 ∨ c.1.length = 4 ∨ c.1.length = 5 := by omega
  rcases this with e | e | e | e <;> rw [e] at hmem
  · exact List.mem_append_left _ hmem
  · exact List.mem_append_right _ (List.mem_append_left _ hmem)
  · exact List.mem_append_right _ (List.mem_append_right _ (List.mem_append_left _ hmem))
  · exact List.mem_append_right _ (List.mem_append_right _ (List.mem_append_right _ hmem))
theorem room3 {short : Bool} {g : Gd} (hv : VdG g) (h5 : g.1.length ≤ 3) {most : Int} (hm : 14 < most) : ¬ Exq most short g .fuel := by
  refine Exq.room hv gUpto3 (fun c hc h0 hl => ?_) (by rw [gUpto3_len]; exact hm)
  have h2 := hc.two
  have hmem := mem_gAll hc h0
  unfold gUpto3
  have : c.1.length = 2 ∨ c.1.length = 3 := by omega
  rcases this with e | e <;> rw [e] at hmem
  · exact List.mem_append_left _ hmem
  · exact List.mem_append_right _ hmem
/-! ### when the unknot is found -/
/-- what was done is closed -/
theorem Dn.closed {g0 : Gd} {short : Bool} {K : List En} {A : List Gd} (hA : Alg g0 K A) (hd : ∀ a ∈ A, ¬ (short = true ∧ a.1.length = 2) ∧ ∀ ms z, (ms, z) ∈ nbrs a → hasK K (lstM z) = true) : ∀ {c c' : Gd}, RC c c' → (∃ a ∈ A, lstM a = c) → ∃ a ∈ A, lstM a = c' := by
  intro c c' h
  induction h with
  | refl a => exact fun h => h
  | @head a b c hf _ ih =>
    rintro ⟨x, hx, rfl⟩
    refine ih ?_
    obtain ⟨i, e, k1, k2, k3, k4⟩ := hA.get hx
    have hf2 : Fol x b := (Fol.tl k4 (Tl.least k4)).2 hf
    obtain ⟨ms, z, hz, rfl⟩ := fol_nbrs k4 hf2
    obtain ⟨e', he', hk'⟩ := hasK_yes ((hd x hx).2 ms z hz)
    obtain ⟨j, hj⟩ := List.getElem?_of_mem he'
    have hlt : j < A.length := by rw [hA.1]; exact (List.getElem?_eq_some_iff.1 hj).1
    obtain ⟨_, q2, _⟩ := hA.2 j e' _ hj (List.getElem?_eq_getElem hlt)
    exact ⟨A[j], List.getElem_mem hlt, by rw [q2, hk']⟩
theorem alg_first {g0 : Gd} {K : List En} {A : List Gd} (h : Alg g0 K A) (hn : A ≠ []) : g0 ∈ A := by
  cases A with
  | nil => exact absurd rfl hn
  | cons a A =>
    have hlt : 0 < K.length := by rw [← h.1]; simp
    obtain ⟨_, _, hf⟩ := h.2 0 _ a (List.getElem?_eq_getElem hlt) rfl
    rcases hf with ⟨_, _, rfl⟩ | ⟨j, b, e', hj, _⟩
    · simp
    · omega
theorem no_done {g0 : Gd} {K : List En} (hv : VdG g0) (h6 : g0.1.length ≤ 6) (hc : comp g0.1 g0.2 = 1) (hd : DU g0) : ¬ Dn g0 true K := by
  rintro ⟨A, hA, hn, hall⟩
  obtain ⟨c, c1, c2⟩ := to_two g0.1.length g0 hv rfl h6 hc hd
  obtain ⟨a, ha, rfl⟩ := Dn.closed hA hall c1 ⟨g0, alg_first hA hn, rfl⟩
  obtain ⟨i, e, k1, k2, k3, k4⟩ := hA.get ha
  rw [lstM_len k4] at c2
  exact (hall a ha).1 ⟨rfl, c2⟩
end Go.Proofs.YteliflcbegcdlaaGreatDoor
