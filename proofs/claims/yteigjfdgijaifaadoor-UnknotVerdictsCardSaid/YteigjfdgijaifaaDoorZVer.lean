/- package unknot: what a verdict and the list of the reachable classes have to do with each other (plain). -/
import Derived.Test.YteigjfdgijaifaaDoorZBud
import Derived.Test.YteigjfdgijaifaaDoorZClo
namespace Go.Proofs.YteigjfdgijaifaaDoor
open Go.RowKit Go.Shelf
set_option linter.unusedVariables false

section
variable {g : Gd} {K : List En} {gs : List Gd}
theorem key_alg {A : List Gd} (hA : Alg g K A) {h : Gd} (hh : h ∈ K.map En.key) : ∃ a ∈ A, lstM a = h ∧ VdG a := by
  obtain ⟨e, he, rfl⟩ := List.mem_map.1 hh
  obtain ⟨i, hi⟩ := List.getElem?_of_mem he
  have hlt : i < A.length := by rw [hA.1]; exact (List.getElem?_eq_some_iff.1 hi).1
  obtain ⟨q1, q2, _⟩ := hA.2 i e _ hi (List.getElem?_eq_getElem hlt)
  exact ⟨A[i], List.getElem_mem hlt, q2, q1⟩
theorem alg_key {A : List Gd} (hA : Alg g K A) {a : Gd} (ha : a ∈ A) : lstM a ∈ K.map En.key ∧ VdG a := by
  obtain ⟨i, e, k1, _, k3, k4⟩ := hA.get ha
  exact ⟨by rw [k3]; exact List.mem_map.2 ⟨e, List.mem_of_getElem? k1, rfl⟩, k4⟩
theorem ver_vd (hd : Dn g false K) (hp : gs.Perm (K.map En.key)) : ∀ h ∈ gs, VdG h := by
  intro h hh
  obtain ⟨A, hA, _, _⟩ := hd
  obtain ⟨a, _, rfl, hv⟩ := key_alg hA (hp.mem_iff.1 hh)
  exact lstM_vd hv
theorem ver_closed (hv : VdG g) (hd : Dn g false K) (hp : gs.Perm (K.map En.key)) : ClP g gs := by
  obtain ⟨A, hA, hn, hall⟩ := hd
  refine ⟨hv, fun h hh => ?_, hp.mem_iff.2 (alg_key hA (alg_first hA hn)).1, fun h hh ms z hz => ?_⟩
  · obtain ⟨a, _, rfl, hva⟩ := key_alg hA (hp.mem_iff.1 hh)
    exact lstM_lstM hva
  · obtain ⟨a, ha, rfl, hva⟩ := key_alg hA (hp.mem_iff.1 hh)
    have hf : Fol a (lstM z) := (Fol.tl hva (Tl.least hva)).2 (nbrs_fol (lstM_vd hva) hz)
    obtain ⟨ms', z', hz', e⟩ := fol_nbrs hva hf
    obtain ⟨e', he', hk'⟩ := hasK_yes ((hall a ha).2 ms' z' hz')
    exact hp.mem_iff.2 (List.mem_map.2 ⟨e', he', by rw [hk', e]⟩)
theorem ver_two_no (hd : Dn g true K) (hp : gs.Perm (K.map En.key)) : twoB gs = false := by
  obtain ⟨A, hA, _, hall⟩ := hd
  cases h : twoB gs with
  | false => rfl
  | true =>
    obtain ⟨c, hc, h2⟩ := List.any_eq_true.1 h
    obtain ⟨a, ha, rfl, hva⟩ := key_alg hA (hp.mem_iff.1 hc)
    have h3 := of_decide_eq_true h2
    rw [lstM_len hva] at h3
    exact absurd ⟨rfl, h3⟩ (hall a ha).1
theorem ver_two_yes (hv : VdG g) (h6 : g.1.length ≤ 6) (hc : comp g.1 g.2 = 1) (hdu : DU g) (hd : Dn g false K) (hp : gs.Perm (K.map En.key)) : twoB gs = true := by
  obtain ⟨A, hA, hn, hall⟩ := hd
  obtain ⟨c, c1, c2⟩ := to_two g.1.length g hv rfl h6 hc hdu
  obtain ⟨a, ha, rfl⟩ := Dn.closed hA hall c1 ⟨g, alg_first hA hn, rfl⟩
  exact List.any_eq_true.2 ⟨lstM a, hp.mem_iff.2 (alg_key hA ha).1, decide_eq_true c2⟩
theorem nbrs_k {g z : Gd} {ms : List Mv} (h : (ms, z) ∈ nbrs g) : ∀ m ∈ ms, m.k ≠ 4 := by
  have one : ∀ m : Mv, m.k ≠ 4 → (ms, z) ∈ tryM g [m] → ∀ q ∈ ms, q.k ≠ 4 := fun m hk hm q hq => by
    have : ms = [m] := tryM_ms hm
    subst this
    rw [List.mem_singleton.1 hq]; exact hk
  have two : ∀ m m' : Mv, m.k ≠ 4 → m'.k ≠ 4 → (ms, z) ∈ tryM g [m, m'] → ∀ q ∈ ms, q.k ≠ 4 := fun m m' hk hk' hm q hq => by
    have : ms = [m, m'] := tryM_ms hm
    subst this
    rcases List.mem_cons.1 hq with rfl | hq
    · exact hk
    · rw [List.mem_singleton.1 hq]; exact hk'
  have key : ∀ r, (ms, z) ∈ nbR g r → ∀ q ∈ ms, q.k ≠ 4 := fun r hm => by
    unfold nbR nb1 nb2 nb3 at hm
    rcases List.mem_append.1 hm with hm | hm
    · rcases List.mem_append.1 hm with hm | hm
      · obtain ⟨i, hi, q⟩ := List.mem_flatMap.1 hm
        unfold rmL at q
        split at q
        · exact one (rmM r i) (by simp [rmM, coM, tuM]) q
        · exact two (tuM (!r)) (rmM r i) (by simp [rmM, coM, tuM]) (by simp [rmM, coM, tuM]) q
      · obtain ⟨i, hi, q⟩ := List.mem_flatMap.1 hm
        exact one (coM r i) (by simp [rmM, coM, tuM]) q
    · exact two (tuM r) (coM r _) (by simp [rmM, coM, tuM]) (by simp [rmM, coM, tuM]) hm
  unfold nbrs at h
  rcases List.mem_append.1 h with h | h
  · exact key _ h
  · exact key _ h
theorem alg_ms {A : List Gd} (hA : Alg g K A) {e : En} (he : e ∈ K) : ∀ m ∈ e.ms, m.k ≠ 4 := by
  obtain ⟨i, hi⟩ := List.getElem?_of_mem he
  have hlt : i < A.length := by rw [hA.1]; exact (List.getElem?_eq_some_iff.1 hi).1
  obtain ⟨_, _, h⟩ := hA.2 i e _ hi (List.getElem?_eq_getElem hlt)
  rcases h with ⟨_, h, _⟩ | ⟨_, _, _, _, _, _, _, h⟩
  · rw [h]; intro m hm; cases hm
  · exact nbrs_k h
theorem path_ms {A : List Gd} (hA : Alg g K A) {fr : Option Gd} {L : List (List Mv)} (h : PathK K fr L) : ∀ ms ∈ L, ∀ m ∈ ms, m.k ≠ 4 := by
  induction h with
  | nil => intro ms h; cases h
  | cons he _ ih =>
    intro ms hm
    rcases List.mem_cons.1 hm with rfl | hm
    · exact alg_ms hA he
    · exact ih ms hm
theorem ver_ms {c : Gd} {L : List (List Mv)} (hf : Fd g K c) (h : PathK K (some c) L) : ∀ m ∈ L.reverse.flatten, m.k ≠ 4 := by
  obtain ⟨A, a, hA, _⟩ := hf
  intro m hm
  obtain ⟨ms, h1, h2⟩ := List.mem_flatten.1 hm
  exact path_ms hA h ms (List.mem_reverse.1 h1) m h2
end
end Go.Proofs.YteigjfdgijaifaaDoor
