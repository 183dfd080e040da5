/- Sums and shifts of derivatives: plain. -/
import Derived.Test.YtlbihllmpbhhcaaDoorMvs
import Derived.Test.YtlbihllmpbhhcaaDoorAwf
namespace Go.Proofs.YtlbihllmpbhhcaaDoor
set_option linter.unusedVariables false

theorem comb_is {f : Int → Int → Int} {p q s : List (Int × Int)} {r : Pol} (h : CombP f (some p) (some q) r) (hs : Can s) (hl : Lim s) (he : ∀ e, f (cf p e) (cf q e) = cf s e) : r = some s := by
  rcases h with ⟨l, rfl, h1, h2, h3⟩ | ⟨rfl, e, h1⟩
  · rw [Can.ext h1 hs (fun e => by rw [h3, he])]
  · rw [he] at h1
    exact absurd (hl.cf hs e) h1
theorem DerOk.exp {ws comp : List Int} {gen : Int} {w w' : World} {v : Value} {r : List (Int × Int)} (h : DerOk ws comp gen w v r w') (hc : ∀ c ∈ comp, -1000 ≤ c ∧ c ≤ 1000) : ∀ t ∈ r, -1000 * (ws.length : Int) ≤ t.1 ∧ t.1 ≤ 1000 * (ws.length : Int) := fun t ht => by
  have h1 := h.can.ne ht
  rw [h.eq] at h1
  unfold dF at h1
  obtain ⟨s, hs, e⟩ := cf_ne h1
  have h2 := drv_bd (N := 1000) (by omega) hc gen ws 0 s hs
  rw [← e]; omega
theorem movP_some {tq : Int → Int} {l : List (Int × Int)} (h : ∀ t ∈ l, -1048576 ≤ tq t.1 ∧ tq t.1 ≤ 1048576) : movP tq (some l) = some (l.map (mvT tq)) := by
  unfold movP
  exact if_pos (List.all_eq_true.2 fun t ht => wiB_iff.2 (h t ht))
theorem cf_mv (l : List (Int × Int)) (n e : Int) : cf (l.map (mvT (fun x => x + n))) e = cf l (e - n) := cf_map_add l n e
theorem Can.mv {l : List (Int × Int)} (h : Can l) (n : Int) : Can (l.map (mvT (fun x => x + n))) := by
  refine ⟨?_, fun t ht => ?_⟩
  · unfold Srt
    rw [List.pairwise_map]
    exact h.srt.imp fun {a b} hab => by show a.1 + n < b.1 + n; omega
  · obtain ⟨s, hs, rfl⟩ := List.mem_map.1 ht
    exact h.nz s hs
theorem Lim.mv {l : List (Int × Int)} (h : Lim l) {n : Int} (hn : ∀ t ∈ l, -1048576 ≤ t.1 + n ∧ t.1 + n ≤ 1048576) : Lim (l.map (mvT (fun x => x + n))) := by
  refine ⟨fun t ht => ?_, fun t ht => ?_⟩
  · obtain ⟨s, hs, rfl⟩ := List.mem_map.1 ht
    exact h.co s hs
  · obtain ⟨s, hs, rfl⟩ := List.mem_map.1 ht
    exact hn s hs
end Go.Proofs.YtlbihllmpbhhcaaDoor
