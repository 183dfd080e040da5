/- A region that draws its order, with one store into memory that it has made, and operations that compute alone before or behind it. -/
import Derived.Test.YtlbihllmpbhhcaaGreatDoorPhi
namespace Go.Proofs.YtlbihllmpbhhcaaGreatDoor
open Go.RowKit
set_option linter.unusedVariables false

/-- every operation but the late ones is needed by the store -/
def needL (ops : Array Oper) (n : Nat) (late : Nat → Bool) : Bool := (List.range ops.size).all fun i => decide (i = n) || late i || (List.range ops.size).any fun j => (decide (j = n) || (!late j && decide (i < j))) && (depsAt ops j).contains i
theorem needL_all {ops : Array Oper} {n : Nat} {late : Nat → Bool} (h : needL ops n late = true) {D : Nat → Bool} (hcl : ∀ j, D j = true → ∀ k ∈ depsAt ops j, D k = true) (hn : D n = true) : ∀ q i, i < ops.size → ops.size - i ≤ q → late i = false → D i = true := by
  intro q
  induction q with
  | zero => intro i h1 h2; omega
  | succ q ih =>
    intro i h1 h2 hl
    by_cases e : i = n
    · rw [e]; exact hn
    · have h3 := List.all_eq_true.1 h i (by simpa using h1)
      simp only [Bool.or_eq_true, decide_eq_true_eq, e, hl, false_or, Bool.false_eq_true] at h3
      obtain ⟨j, hj, h4⟩ := List.any_eq_true.1 h3
      simp only [Bool.and_eq_true, Bool.or_eq_true, decide_eq_true_eq, List.contains_iff_mem, Bool.not_eq_true'] at h4
      simp only [List.mem_range] at hj
      rcases h4.1 with e2 | e2
      · subst e2; exact hcl j hn i h4.2
      · exact hcl j (ih j hj (by omega) e2.1) i h4.2
section
variable {P : Program} {Q : Exit → Act → World → Prop}
structure PhlI (w0 : World) (n : Nat) (e : Nat → Option Value) (Φ : Nat → Value → World → Prop) (R : (Nat → Value) → World → Prop) (x0 : Nat → Value) (D : Nat → Bool) (x : Nat → Value) (w : World) : Prop where
  val : ∀ i v, D i = true → e i = some v → x i = v
  old : ∀ i, D i = false → x i = x0 i
  st : if D n = true then R x w else Below w0.heap.size w0 w ∧ ∀ i, D i = true → Φ i (x i) w
theorem wp_region_phil {id : Nat} {l : List Oper} {a : Act} {w0 : World} (n : Nat) (late : Nat → Bool) (hm : P.follows .mixedOrders = true) (hd : apartD (dstOf l.toArray) = true) (hb : backD l.toArray = true) (hg : l.all (fun o => o.guard.isNone) = true) (hn : inD a.tmps.size (dstOf l.toArray) = true)
    (hlt : late n = false) (hnl2 : n < l.length) (hneed : needL l.toArray n late = true)
    (e : Nat → Option Value) (Φ : Nat → Value → World → Prop) (hΦ : ∀ i v w w', Φ i v w → Below w.heap.size w w' → Φ i v w') (hv : ∀ i u v w, Φ i u w → e i = some v → u = v) (R : (Nat → Value) → World → Prop) (hRl : ∀ x w i v, late i = true → R x w → R (upd x i v) w)
    (hstep : AllOps (fun i o => ∀ (x : Nat → Value) w (b : Act), (∀ j, i ∈ depsAt l.toArray j → x j = slotV a ((dstOf l.toArray).getD (j - 0) none)) → (∀ t : Nat, b.tmps[t]?.getD undef = look (dstOf l.toArray) x a t) →
      (late i = false → i ≠ n → Below w0.heap.size w0 w → (∀ j ∈ deps o, Φ j (x j) w) → o.wp P b w (PhiPost w Φ i b o.dst) NoQ) ∧
      (i = n → Below w0.heap.size w0 w → (∀ j ∈ deps o, Φ j (x j) w) → o.wp P b w (fun a' w' => ∃ v, a' = b.put o.dst v ∧ R (upd x n v) w' ∧ ∀ u, e n = some u → v = u) NoQ) ∧
      (late i = true → (∀ j ∈ deps o, ∀ v, e j = some v → x j = v) → ∃ v, e i = some v ∧ (execOp b.eval o).run P w = .ok (.value v) w ∧ Φ i v w)) 0 l)
    (hend : ∀ (x : Nat → Value) w, R x w → (∀ i v, i < l.length → e i = some v → x i = v) → Q .normal (putAll (dstOf l.toArray) 0 x a) w) : (Code.region id l.toArray true).wp P Q a w0 := by
  refine wp_region_facts2U hm hd hb hg hn (PhlI w0 n e Φ R (fun j => slotV a ((dstOf l.toArray).getD (j - 0) none))) ⟨fun i v h => Bool.noConfusion h, fun _ _ => rfl, by rw [if_neg (by simp)]; exact ⟨(Below.refl _ _).drew, fun i h => Bool.noConfusion h⟩⟩ ?_ ?_
  · have key : ∀ k o, l[k]? = some o → ∀ D x W (b : Act), PhlI w0 n e Φ R (fun j => slotV a ((dstOf l.toArray).getD (j - 0) none)) D x W → D k = false → (∀ j ∈ deps o, D j = true) → (∀ j, D j = true → ∀ q ∈ depsAt l.toArray j, D q = true) → (∀ t : Nat, b.tmps[t]?.getD undef = look (dstOf l.toArray) x a t) → o.wp P b W (StepPost (PhlI w0 n e Φ R (fun j => slotV a ((dstOf l.toArray).getD (j - 0) none))) D x k b o.dst) NoQ := by
      intro k o ho D x W b hI hD hdep hcl hbt
      have hklt : k < l.length := (List.getElem?_eq_some_iff.1 ho).1
      have hs := hstep.get _ _ k o ho x W b (fun j hj => hI.old j (by
        cases h : D j with
        | false => rfl
        | true =>
          rw [Nat.zero_add] at hj
          have := hcl j h k hj
          rw [hD] at this; cases this)) hbt
      rw [Nat.zero_add] at hs
      obtain ⟨s1, s2, s3⟩ := hs
      have hold : ∀ v, ∀ i, upd D k true i = false → upd x k v i = slotV a ((dstOf l.toArray).getD (i - 0) none) := fun v i hi => by
        by_cases q : i = k
        · subst q; rw [upd_same] at hi; cases hi
        · rw [upd_ne _ _ q] at hi ⊢; exact hI.old i hi
      have hval : ∀ v, (∀ u, e k = some u → v = u) → ∀ i u, upd D k true i = true → e i = some u → upd x k v i = u := fun v hvk i u hi hu => by
        by_cases q : i = k
        · subst q; rw [upd_same]; exact hvk u hu
        · rw [upd_ne _ _ q] at hi ⊢; exact hI.val i u hi hu
      have hst := hI.st
      by_cases hkn : k = n
      · subst hkn
        rw [hD, if_neg (by simp)] at hst
        refine Oper.wp_mono ?_ (s2 rfl hst.1 (fun j hj => hst.2 j (hdep j hj)))
        rintro a' w' ⟨v, rfl, hR, hvk⟩
        exact ⟨v, rfl, hval v hvk, hold v, by rw [upd_same, if_pos rfl]; exact hR⟩
      · cases hl : late k with
        | true =>
          obtain ⟨v, hev, hrun, hΦv⟩ := s3 hl (fun j hj u hu => hI.val j u (hdep j hj) hu)
          unfold Oper.wp
          rw [hrun]
          refine ⟨v, rfl, hval v (fun u hu => by rw [hev] at hu; injection hu), hold v, ?_⟩
          rw [upd_ne _ _ (Ne.symm hkn)]
          by_cases hDn : D n = true
          · rw [if_pos hDn] at hst ⊢; exact hRl _ _ _ _ hl hst
          · rw [if_neg hDn] at hst ⊢
            refine ⟨hst.1, fun i hi => ?_⟩
            by_cases q : i = k
            · subst q; rw [upd_same]; exact hΦv
            · rw [upd_ne _ _ q] at hi ⊢; exact hst.2 i hi
        | false =>
          have hDn : ¬ D n = true := fun hDn => by
            have := needL_all hneed hcl hDn _ k (by simpa using hklt) (Nat.le_refl _) hl
            rw [hD] at this; cases this
          rw [if_neg hDn] at hst
          refine Oper.wp_mono ?_ (s1 hl hkn hst.1 (fun j hj => hst.2 j (hdep j hj)))
          rintro a' w' ⟨v, rfl, hb', hv'⟩
          refine ⟨v, rfl, hval v (fun u hu => hv _ _ _ _ hv' hu), hold v, ?_⟩
          rw [upd_ne _ _ (Ne.symm hkn), if_neg hDn]
          refine ⟨hst.1.trans (hb'.mono hst.1.size), fun i hi => ?_⟩
          by_cases q : i = k
          · subst q; rw [upd_same]; exact hv'
          · rw [upd_ne _ _ q] at hi ⊢
            exact hΦ i (x i) W w' (hst.2 i hi) hb'
    have aux : ∀ (r : List Oper) (s : Nat), (∀ k, r[k]? = l[s + k]?) → AllOps (fun i o => ∀ D x W (b : Act), PhlI w0 n e Φ R (fun j => slotV a ((dstOf l.toArray).getD (j - 0) none)) D x W → D i = false → (∀ j ∈ deps o, D j = true) → (∀ j, D j = true → ∀ q ∈ depsAt l.toArray j, D q = true) → (∀ t : Nat, b.tmps[t]?.getD undef = look (dstOf l.toArray) x a t) → o.wp P b W (StepPost (PhlI w0 n e Φ R (fun j => slotV a ((dstOf l.toArray).getD (j - 0) none))) D x i b o.dst) NoQ) s r := by
      intro r
      induction r with
      | nil => intro s _; trivial
      | cons o r ih =>
        intro s hr
        refine ⟨key s o (by have := hr 0; simpa using this.symm), ih (s + 1) (fun k => ?_)⟩
        have := hr (k + 1)
        rw [List.getElem?_cons_succ] at this
        rw [this]; congr 1; omega
    exact aux l 0 (fun k => by rw [Nat.zero_add])
  · intro D x W hI hall
    have hst := hI.st
    have hnl : n < l.length ∨ ¬ n < l.length := by omega
    by_cases hDn : D n = true
    · rw [if_pos hDn] at hst
      exact hend x W hst (fun i v hi hv2 => hI.val i v (hall i hi) hv2)
    · rcases hnl with h | h
      · exact absurd (hall n h) hDn
      · exact absurd hnl2 h
theorem phiT_val {ev : Nat → Option Value} {Ψ : Nat → Value → World → Prop} {i : Nat} {v u : Value} {w : World} (h : phiT ev Ψ i v w) (he : ev i = some u) : v = u := by
  unfold phiT at h; rw [he] at h; exact h
theorem phl_st {R : (Nat → Value) → World → Prop} {x : Nat → Value} {n : Nat} {o : Oper} {b : Act} {w : World} (W : World) (h : (execOp b.eval o).run P w = .ok .skip W) (ho : o.dst = none) (hR : ∀ v, R (upd x n v) W) {e : Option Value} (he : e = none) : o.wp P b w (fun a' w' => ∃ v, a' = b.put o.dst v ∧ R (upd x n v) w' ∧ ∀ u, e = some u → v = u) NoQ := by
  unfold Oper.wp; rw [h]; exact ⟨undef, by rw [ho], hR _, fun u hu => by rw [he] at hu; cases hu⟩
end
end Go.Proofs.YtlbihllmpbhhcaaGreatDoor
