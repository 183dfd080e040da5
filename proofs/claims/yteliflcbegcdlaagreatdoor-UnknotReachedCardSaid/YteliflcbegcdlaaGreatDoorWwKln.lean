/- package unknot: from a small grid the search reaches few classes, whatever the budget (plain). -/
import Derived.Test.YteliflcbegcdlaaGreatDoorWwPlc
namespace Go.Proofs.YteliflcbegcdlaaGreatDoor
open Go.RowKit
set_option linter.unusedVariables false
/-- all grids of a state are at most of size N -/
structure KL (N : Nat) (s : St) : Prop where
  k : ∀ e ∈ s.1, e.key.1.length ≤ N ∧ gt e.key.1 0 = 0
  w : ∀ l ∈ s.2, ∀ g ∈ l, g.1.length ≤ N
theorem KL.next {N : Nat} {s : St} {g : Gd} {W : List (List Gd)} (h : KL N s) (hn : nextM s.2 = some (g, W)) : KL N (s.1, W) ∧ g.1.length ≤ N := by
  obtain ⟨k, t, e1, rfl⟩ := nextM_get hn
  have hm := List.mem_of_getElem? e1
  refine ⟨⟨h.k, ?_⟩, h.w _ hm g (by simp)⟩
  intro l hl g' hg'
  rcases List.mem_or_eq_of_mem_set hl with q | q
  · exact h.w l q g' hg'
  · subst q; exact h.w _ hm g' (by simp [hg'])
theorem KL.add {N : Nat} {most : Int} {s s' : St} {g : Gd} {fr : Option Gd} {ms : List Mv} (h : KL N s) (hg : VdG g) (hl : g.1.length ≤ N) (ha : addM most s g fr ms = some s') : KL N s' := by
  unfold addM at ha
  split at ha
  · injection ha with ha; subst ha; exact h
  split at ha
  · cases ha
  injection ha with ha
  subst ha
  refine ⟨?_, ?_⟩
  · intro e he
    rcases List.mem_append.1 he with he | he
    · exact h.k e he
    · rw [List.mem_singleton.1 he]; exact ⟨by rw [lstM_len hg]; exact hl, lst0 hg⟩
  · intro l hl2 g' hg'
    rcases modify_mem hl2 with hl2 | ⟨y, hy, rfl⟩
    · exact h.w l hl2 g' hg'
    · rcases List.mem_append.1 hg' with q | q
      · exact h.w y hy g' q
      · rw [List.mem_singleton.1 q]; exact hl
theorem KL.all {N : Nat} {most : Int} {fr : Option Gd} : ∀ (l : List (List Mv × Gd)) {s s' : St}, KL N s → (∀ p ∈ l, VdG p.2 ∧ p.2.1.length ≤ N) → addAll most fr s l = some s' → KL N s'
  | [], s, s', h, _, e => by injection e with e; subst e; exact h
  | (ms, g) :: t, s, s', h, hl, e => by
    unfold addAll at e
    cases h1 : addM most s g fr ms with
    | none => rw [h1] at e; cases e
    | some s1 =>
      rw [h1] at e
      have := hl (ms, g) (by simp)
      exact KL.all t (h.add this.1 this.2 h1) (fun p hp => hl p (by simp [hp])) e
theorem KL.start (N : Nat) : KL N st00 := ⟨fun e he => by simp [st00] at he, fun l hl g hg => by
  rw [List.eq_of_mem_replicate hl] at hg; simp at hg⟩
theorem KL.nbrs {N : Nat} {most : Int} {fr : Option Gd} {s s' : St} {g : Gd} (h : KL N s) (hv : VdG g) (hl : g.1.length ≤ N) (k : Nat) (e : addAll most fr s ((nbrs g).take k) = some s') : KL N s' :=
  h.all _ (fun p hp => have hm := List.mem_of_mem_take hp; ⟨nbrs_vd hv (show (p.1, p.2) ∈ _ from hm), Nat.le_trans (nbrs_len hv (show (p.1, p.2) ∈ _ from hm)) hl⟩) e
theorem KL.len {s : St} (h : KL 5 s) (hs : StP s) : s.1.length ≤ 3038 := by
  have := len_subG (s.1.map En.key) gUpto5 hs.nd fun c hc => by
    obtain ⟨e, he, rfl⟩ := List.mem_map.1 hc
    obtain ⟨hl, h0⟩ := h.k e he
    have hv := hs.v1 e he
    have h2 := hv.two
    have hmem := mem_gAll (g := e.key) hv h0
    unfold gUpto5
    have : e.key.1.length = 2 ∨ e.key.1.length = 3 ∨ e.key.1.length = 4 ∨ e.key.1.length = 5 := by omega
    rcases this with e | e | e | e <;> rw [e] at hmem
    · exact List.mem_append_left _ hmem
    · exact List.mem_append_right _ (List.mem_append_left _ hmem)
    · exact List.mem_append_right _ (List.mem_append_right _ (List.mem_append_left _ hmem))
    · exact List.mem_append_right _ (List.mem_append_right _ (List.mem_append_right _ hmem))
  rw [List.length_map, gUpto5_len] at this
  exact this
theorem KL.mono {N M : Nat} {s : St} (h : KL N s) (hm : N ≤ M) : KL M s := ⟨fun e he => ⟨Nat.le_trans (h.k e he).1 hm, (h.k e he).2⟩, fun l hl g hg => Nat.le_trans (h.w l hl g hg) hm⟩
/-- there is room in memory -/
theorem KL.room {N : Nat} {most : Int} {s : St} (h : KL N s) (hs : StP s) (hm : most ≤ 90000000 ∨ N ≤ 5) (hk : (s.1.length : Int) < most) : s.1.length < 90000000 := by
  rcases hm with hm | hm
  · omega
  · have := (h.mono hm).len hs; omega
theorem alg_kl {g : Gd} {K : List En} {A : List Gd} (hA : Alg g K A) : KL g.1.length (K, []) := by
  refine ⟨fun e he => ?_, fun l hl => by simp at hl⟩
  obtain ⟨i, hi⟩ := List.getElem?_of_mem he
  have hlt : i < A.length := by rw [hA.1]; exact (List.getElem?_eq_some_iff.1 hi).1
  obtain ⟨q1, q2, _⟩ := hA.2 i e _ hi (List.getElem?_eq_getElem hlt)
  have q3 := alg_len hA (i + 1) i e _ (by omega) hi (List.getElem?_eq_getElem hlt)
  rw [← q2]
  exact ⟨by rw [lstM_len q1]; exact q3, lst0 q1⟩
theorem KL.len2 {s : St} (h : KL 5 s) (hv : ∀ e ∈ s.1, Vd e.key.1 e.key.2) (hn : (s.1.map En.key).Nodup) : s.1.length ≤ 3038 :=
  KL.len (s := (s.1, List.replicate 41 [])) ⟨h.k, fun l hl g hg => by rw [List.eq_of_mem_replicate hl] at hg; simp at hg⟩ ⟨hv, fun l hl g hg => by rw [List.eq_of_mem_replicate hl] at hg; simp at hg, hn, fun l hl => by rw [List.eq_of_mem_replicate hl]; simp, by simp⟩
end Go.Proofs.YteliflcbegcdlaaGreatDoor
