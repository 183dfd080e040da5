/- A region that draws its order, with one store into memory that it has made, and operations that compute alone before or behind it. -/
/- A region that draws its order: reads, literals, calls that make memory; then AN APPEND (operation m), then ONE STORE (operation n); operations that compute alone (late) may come before or behind. -/
/- word.Valid. -/
import Derived.Test.YtlbihllmpbhhcaaDoorZTab
import Derived.Test.YtlbihllmpbhhcaaDoorZCha
import Derived.Test.YtlbihllmpbhhcaaDoorZPrt
import Derived.Test.YtlbihllmpbhhcaaDoorZPsh
namespace Go.Proofs.YtlbihllmpbhhcaaDoor
open Go.RowKit
set_option linter.unusedVariables false

/-- every operation but the late ones is needed by the store -/
def needL (ops : Array Oper) (n : Nat) (late : Nat → Bool) : Bool := (List.range ops.size).all fun i => decide (i = n) || late i || (List.range ops.size).any fun j => (decide (j = n) || (!late j && decide (i < j))) && (depsAt ops j).contains i
theorem needL_all {ops : Array Oper} {n : Nat} {late : Nat → Bool} (h : needL ops n late = true) {D : Nat → Bool} (hcl : ∀ j, D j = true → ∀ k ∈ depsAt ops j, D k = true) (hn : D n = true) : ∀ q i, i < ops.size → ops.size - i ≤ q → late i = false → D i = true := by
  intro q
  induction q with
  | zero => intro i h1 h2; omega
  | succ q ih =>
    intro i h1 h2 hl
    by_cases e : i = n
    · rw [e]; exact hn
    · have h3 := List.all_eq_true.1 h i (by simpa using h1)
      simp only [Bool.or_eq_true, decide_eq_true_eq, e, hl, false_or, Bool.false_eq_true] at h3
      obtain ⟨j, hj, h4⟩ := List.any_eq_true.1 h3
      simp only [Bool.and_eq_true, Bool.or_eq_true, decide_eq_true_eq, List.contains_iff_mem, Bool.not_eq_true'] at h4
      simp only [List.mem_range] at hj
      rcases h4.1 with e2 | e2
      · subst e2; exact hcl j hn i h4.2
      · exact hcl j (ih j hj (by omega) e2.1) i h4.2
section
variable {P : Program} {Q : Exit → Act → World → Prop}
structure PhlI (w0 : World) (n : Nat) (e : Nat → Option Value) (Φ : Nat → Value → World → Prop) (R : (Nat → Value) → World → Prop) (x0 : Nat → Value) (D : Nat → Bool) (x : Nat → Value) (w : World) : Prop where
  val : ∀ i v, D i = true → e i = some v → x i = v
  old : ∀ i, D i = false → x i = x0 i
  st : if D n = true then R x w else Below w0.heap.size w0 w ∧ ∀ i, D i = true → Φ i (x i) w
theorem wp_region_phil {id : Nat} {l : List Oper} {a : Act} {w0 : World} (n : Nat) (late : Nat → Bool) (hm : P.follows .mixedOrders = true) (hd : apartD (dstOf l.toArray) = true) (hb : backD l.toArray = true) (hg : l.all (fun o => o.guard.isNone) = true) (hn : inD a.tmps.size (dstOf l.toArray) = true)
    (hlt : late n = false) (hnl2 : n < l.length) (hneed : needL l.toArray n late = true)
    (e : Nat → Option Value) (Φ : Nat → Value → World → Prop) (hΦ : ∀ i v w w', Φ i v w → Below w.heap.size w w' → Φ i v w') (hv : ∀ i u v w, Φ i u w → e i = some v → u = v) (R : (Nat → Value) → World → Prop) (hRl : ∀ x w i v, late i = true → R x w → R (upd x i v) w)
    (hstep : AllOps (fun i o => ∀ (x : Nat → Value) w (b : Act), (∀ j, i ∈ depsAt l.toArray j → x j = slotV a ((dstOf l.toArray).getD (j - 0) none)) → (∀ t : Nat, b.tmps[t]?.getD undef = look (dstOf l.toArray) x a t) →
      (late i = false → i ≠ n → Below w0.heap.size w0 w → (∀ j ∈ deps o, Φ j (x j) w) → o.wp P b w (PhiPost w Φ i b o.dst) NoQ) ∧
      (i = n → Below w0.heap.size w0 w → (∀ j ∈ deps o, Φ j (x j) w) → o.wp P b w (fun a' w' => ∃ v, a' = b.put o.dst v ∧ R (upd x n v) w' ∧ ∀ u, e n = some u → v = u) NoQ) ∧
      (late i = true → (∀ j ∈ deps o, ∀ v, e j = some v → x j = v) → ∃ v, e i = some v ∧ (execOp b.eval o).run P w = .ok (.value v) w ∧ Φ i v w)) 0 l)
    (hend : ∀ (x : Nat → Value) w, R x w → (∀ i v, i < l.length → e i = some v → x i = v) → Q .normal (putAll (dstOf l.toArray) 0 x a) w) : (Code.region id l.toArray true).wp P Q a w0 := by
  refine wp_region_facts2U hm hd hb hg hn (PhlI w0 n e Φ R (fun j => slotV a ((dstOf l.toArray).getD (j - 0) none))) ⟨fun i v h => Bool.noConfusion h, fun _ _ => rfl, by rw [if_neg (by simp)]; exact ⟨(Below.refl _ _).drew, fun i h => Bool.noConfusion h⟩⟩ ?_ ?_
  · have key : ∀ k o, l[k]? = some o → ∀ D x W (b : Act), PhlI w0 n e Φ R (fun j => slotV a ((dstOf l.toArray).getD (j - 0) none)) D x W → D k = false → (∀ j ∈ deps o, D j = true) → (∀ j, D j = true → ∀ q ∈ depsAt l.toArray j, D q = true) → (∀ t : Nat, b.tmps[t]?.getD undef = look (dstOf l.toArray) x a t) → o.wp P b W (StepPost (PhlI w0 n e Φ R (fun j => slotV a ((dstOf l.toArray).getD (j - 0) none))) D x k b o.dst) NoQ := by
      intro k o ho D x W b hI hD hdep hcl hbt
      have hklt : k < l.length := (List.getElem?_eq_some_iff.1 ho).1
      have hs := hstep.get _ _ k o ho x W b (fun j hj => hI.old j (by
        cases h : D j with
        | false => rfl
        | true =>
          rw [Nat.zero_add] at hj
          have := hcl j h k hj
          rw [hD] at this; cases this)) hbt
      rw [Nat.zero_add] at hs
      obtain ⟨s1, s2, s3⟩ := hs
      have hold : ∀ v, ∀ i, upd D k true i = false → upd x k v i = slotV a ((dstOf l.toArray).getD (i - 0) none) := fun v i hi => by
        by_cases q : i = k
        · subst q; rw [upd_same] at hi; cases hi
        · rw [upd_ne _ _ q] at hi ⊢; exact hI.old i hi
      have hval : ∀ v, (∀ u, e k = some u → v = u) → ∀ i u, upd D k true i = true → e i = some u → upd x k v i = u := fun v hvk i u hi hu => by
        by_cases q : i = k
        · subst q; rw [upd_same]; exact hvk u hu
        · rw [upd_ne _ _ q] at hi ⊢; exact hI.val i u hi hu
      have hst := hI.st
      by_cases hkn : k = n
      · subst hkn
        rw [hD, if_neg (by simp)] at hst
        refine Oper.wp_mono ?_ (s2 rfl hst.1 (fun j hj => hst.2 j (hdep j hj)))
        rintro a' w' ⟨v, rfl, hR, hvk⟩
        exact ⟨v, rfl, hval v hvk, hold v, by rw [upd_same, if_pos rfl]; exact hR⟩
      · cases hl : late k with
        | true =>
          obtain ⟨v, hev, hrun, hΦv⟩ := s3 hl (fun j hj u hu => hI.val j u (hdep j hj) hu)
          unfold Oper.wp
          rw [hrun]
          refine ⟨v, rfl, hval v (fun u hu => by rw [hev] at hu; injection hu), hold v, ?_⟩
          rw [upd_ne _ _ (Ne.symm hkn)]
          by_cases hDn : D n = true
          · rw [if_pos hDn] at hst ⊢; exact hRl _ _ _ _ hl hst
          · rw [if_neg hDn] at hst ⊢
            refine ⟨hst.1, fun i hi => ?_⟩
            by_cases q : i = k
            · subst q; rw [upd_same]; exact hΦv
            · rw [upd_ne _ _ q] at hi ⊢; exact hst.2 i hi
        | false =>
          have hDn : ¬ D n = true := fun hDn => by
            have := needL_all hneed hcl hDn _ k (by simpa using hklt) (Nat.le_refl _) hl
            rw [hD] at this; cases this
          rw [if_neg hDn] at hst
          refine Oper.wp_mono ?_ (s1 hl hkn hst.1 (fun j hj => hst.2 j (hdep j hj)))
          rintro a' w' ⟨v, rfl, hb', hv'⟩
          refine ⟨v, rfl, hval v (fun u hu => hv _ _ _ _ hv' hu), hold v, ?_⟩
          rw [upd_ne _ _ (Ne.symm hkn), if_neg hDn]
          refine ⟨hst.1.trans (hb'.mono hst.1.size), fun i hi => ?_⟩
          by_cases q : i = k
          · subst q; rw [upd_same]; exact hv'
          · rw [upd_ne _ _ q] at hi ⊢
            exact hΦ i (x i) W w' (hst.2 i hi) hb'
    have aux : ∀ (r : List Oper) (s : Nat), (∀ k, r[k]? = l[s + k]?) → AllOps (fun i o => ∀ D x W (b : Act), PhlI w0 n e Φ R (fun j => slotV a ((dstOf l.toArray).getD (j - 0) none)) D x W → D i = false → (∀ j ∈ deps o, D j = true) → (∀ j, D j = true → ∀ q ∈ depsAt l.toArray j, D q = true) → (∀ t : Nat, b.tmps[t]?.getD undef = look (dstOf l.toArray) x a t) → o.wp P b W (StepPost (PhlI w0 n e Φ R (fun j => slotV a ((dstOf l.toArray).getD (j - 0) none))) D x i b o.dst) NoQ) s r := by
      intro r
      induction r with
      | nil => intro s _; trivial
      | cons o r ih =>
        intro s hr
        refine ⟨key s o (by have := hr 0; simpa using this.symm), ih (s + 1) (fun k => ?_)⟩
        have := hr (k + 1)
        rw [List.getElem?_cons_succ] at this
        rw [this]; congr 1; omega
    exact aux l 0 (fun k => by rw [Nat.zero_add])
  · intro D x W hI hall
    have hst := hI.st
    have hnl : n < l.length ∨ ¬ n < l.length := by omega
    by_cases hDn : D n = true
    · rw [if_pos hDn] at hst
      exact hend x W hst (fun i v hi hv2 => hI.val i v (hall i hi) hv2)
    · rcases hnl with h | h
      · exact absurd (hall n h) hDn
      · exact absurd hnl2 h
theorem phiT_val {ev : Nat → Option Value} {Ψ : Nat → Value → World → Prop} {i : Nat} {v u : Value} {w : World} (h : phiT ev Ψ i v w) (he : ev i = some u) : v = u := by
  unfold phiT at h; rw [he] at h; exact h
theorem phl_st {R : (Nat → Value) → World → Prop} {x : Nat → Value} {n : Nat} {o : Oper} {b : Act} {w : World} (W : World) (h : (execOp b.eval o).run P w = .ok .skip W) (ho : o.dst = none) (hR : ∀ v, R (upd x n v) W) {e : Option Value} (he : e = none) : o.wp P b w (fun a' w' => ∃ v, a' = b.put o.dst v ∧ R (upd x n v) w' ∧ ∀ u, e = some u → v = u) NoQ := by
  unfold Oper.wp; rw [h]; exact ⟨undef, by rw [ho], hR _, fun u hu => by rw [he] at hu; cases hu⟩
end
end Go.Proofs.YtlbihllmpbhhcaaDoor

namespace Go.Proofs.YtlbihllmpbhhcaaDoor
open Go.RowKit
set_option linter.unusedVariables false

section
variable {P : Program} {Q : Exit → Act → World → Prop}
structure PapI (w0 : World) (m n : Nat) (e : Nat → Option Value) (Φ : Nat → Value → World → Prop) (R1 R : (Nat → Value) → World → Prop) (x0 : Nat → Value) (D : Nat → Bool) (x : Nat → Value) (w : World) : Prop where
  val : ∀ i v, D i = true → e i = some v → x i = v
  old : ∀ i, D i = false → x i = x0 i
  st : if D n = true then R x w else if D m = true then R1 x w else Below w0.heap.size w0 w ∧ ∀ i, D i = true → Φ i (x i) w
theorem wp_region_pap {id : Nat} {l : List Oper} {a : Act} {w0 : World} (m n : Nat) (late : Nat → Bool) (hm : P.follows .mixedOrders = true) (hd : apartD (dstOf l.toArray) = true) (hb : backD l.toArray = true) (hg : l.all (fun o => o.guard.isNone) = true) (hn : inD a.tmps.size (dstOf l.toArray) = true)
    (hlt : late n = false) (hltm : late m = false) (hmn : m ≠ n) (hnl2 : n < l.length) (hnm : (depsAt l.toArray n).contains m = true) (hneed : needL l.toArray m (fun i => late i || decide (i = n)) = true)
    (e : Nat → Option Value) (Φ : Nat → Value → World → Prop) (hΦ : ∀ i v w w', Φ i v w → Below w.heap.size w w' → Φ i v w') (hv : ∀ i u v w, Φ i u w → e i = some v → u = v) (R1 R : (Nat → Value) → World → Prop) (hRl1 : ∀ x w i v, late i = true → R1 x w → R1 (upd x i v) w) (hRl : ∀ x w i v, late i = true → R x w → R (upd x i v) w)
    (hstep : AllOps (fun i o => ∀ (x : Nat → Value) w (b : Act), (∀ j, i ∈ depsAt l.toArray j → x j = slotV a ((dstOf l.toArray).getD (j - 0) none)) → (∀ t : Nat, b.tmps[t]?.getD undef = look (dstOf l.toArray) x a t) →
      (late i = false → i ≠ n → i ≠ m → Below w0.heap.size w0 w → (∀ j ∈ deps o, Φ j (x j) w) → o.wp P b w (PhiPost w Φ i b o.dst) NoQ) ∧
      (i = m → Below w0.heap.size w0 w → (∀ j ∈ deps o, Φ j (x j) w) → o.wp P b w (fun a' w' => ∃ v, a' = b.put o.dst v ∧ R1 (upd x m v) w' ∧ ∀ u, e m = some u → v = u) NoQ) ∧
      (i = n → R1 x w → (∀ j ∈ deps o, ∀ v, e j = some v → x j = v) → o.wp P b w (fun a' w' => ∃ v, a' = b.put o.dst v ∧ R (upd x n v) w' ∧ ∀ u, e n = some u → v = u) NoQ) ∧
      (late i = true → (∀ j ∈ deps o, ∀ v, e j = some v → x j = v) → ∃ v, e i = some v ∧ (execOp b.eval o).run P w = .ok (.value v) w ∧ Φ i v w)) 0 l)
    (hend : ∀ (x : Nat → Value) w, R x w → (∀ i v, i < l.length → e i = some v → x i = v) → Q .normal (putAll (dstOf l.toArray) 0 x a) w) : (Code.region id l.toArray true).wp P Q a w0 := by
  refine wp_region_facts2U hm hd hb hg hn (PapI w0 m n e Φ R1 R (fun j => slotV a ((dstOf l.toArray).getD (j - 0) none))) ⟨fun i v h => Bool.noConfusion h, fun _ _ => rfl, by rw [if_neg (by simp), if_neg (by simp)]; exact ⟨(Below.refl _ _).drew, fun i h => Bool.noConfusion h⟩⟩ ?_ ?_
  · have key : ∀ k o, l[k]? = some o → ∀ D x W (b : Act), PapI w0 m n e Φ R1 R (fun j => slotV a ((dstOf l.toArray).getD (j - 0) none)) D x W → D k = false → (∀ j ∈ deps o, D j = true) → (∀ j, D j = true → ∀ q ∈ depsAt l.toArray j, D q = true) → (∀ t : Nat, b.tmps[t]?.getD undef = look (dstOf l.toArray) x a t) → o.wp P b W (StepPost (PapI w0 m n e Φ R1 R (fun j => slotV a ((dstOf l.toArray).getD (j - 0) none))) D x k b o.dst) NoQ := by
      intro k o ho D x W b hI hD hdep hcl hbt
      have hklt : k < l.length := (List.getElem?_eq_some_iff.1 ho).1
      have hs := hstep.get _ _ k o ho x W b (fun j hj => hI.old j (by
        cases h : D j with
        | false => rfl
        | true =>
          rw [Nat.zero_add] at hj
          have := hcl j h k hj
          rw [hD] at this; cases this)) hbt
      rw [Nat.zero_add] at hs
      obtain ⟨s1, s2, s4, s3⟩ := hs
      have hDnm : D n = true → D m = true := fun h => hcl n h m (by simpa [List.contains_iff_mem] using hnm)
      have hold : ∀ v, ∀ i, upd D k true i = false → upd x k v i = slotV a ((dstOf l.toArray).getD (i - 0) none) := fun v i hi => by
        by_cases q : i = k
        · subst q; rw [upd_same] at hi; cases hi
        · rw [upd_ne _ _ q] at hi ⊢; exact hI.old i hi
      have hval : ∀ v, (∀ u, e k = some u → v = u) → ∀ i u, upd D k true i = true → e i = some u → upd x k v i = u := fun v hvk i u hi hu => by
        by_cases q : i = k
        · subst q; rw [upd_same]; exact hvk u hu
        · rw [upd_ne _ _ q] at hi ⊢; exact hI.val i u hi hu
      have hst := hI.st
      by_cases hkn : k = n
      · subst hkn
        have hmD : D m = true := by
          have hmo : m ∈ deps o := by
            have h1 : m ∈ depsAt l.toArray k := by simpa [List.contains_iff_mem] using hnm
            have h2 : depsAt l.toArray k = deps o := by
              unfold depsAt
              rw [show l.toArray[k]? = some o by simpa using ho]
            rw [h2] at h1; exact h1
          exact hdep m hmo
        rw [hD, if_neg (by simp), if_pos hmD] at hst
        refine Oper.wp_mono ?_ (s4 rfl hst (fun j hj u hu => hI.val j u (hdep j hj) hu))
        rintro a' w' ⟨v, rfl, hR, hvk⟩
        exact ⟨v, rfl, hval v hvk, hold v, by rw [upd_same, if_pos rfl]; exact hR⟩
      · by_cases hkm : k = m
        · subst hkm
          have hDn : ¬ D n = true := fun h => by rw [hDnm h] at hD; cases hD
          rw [if_neg hDn, hD, if_neg (by simp)] at hst
          refine Oper.wp_mono ?_ (s2 rfl hst.1 (fun j hj => hst.2 j (hdep j hj)))
          rintro a' w' ⟨v, rfl, hR, hvk⟩
          exact ⟨v, rfl, hval v hvk, hold v, by rw [upd_ne _ _ (Ne.symm hkn), if_neg hDn, upd_same, if_pos rfl]; exact hR⟩
        · cases hl : late k with
          | true =>
            obtain ⟨v, hev, hrun, hΦv⟩ := s3 hl (fun j hj u hu => hI.val j u (hdep j hj) hu)
            unfold Oper.wp
            rw [hrun]
            refine ⟨v, rfl, hval v (fun u hu => by rw [hev] at hu; injection hu), hold v, ?_⟩
            rw [upd_ne _ _ (Ne.symm hkn), upd_ne _ _ (Ne.symm hkm)]
            by_cases hDn : D n = true
            · rw [if_pos hDn] at hst ⊢; exact hRl _ _ _ _ hl hst
            · rw [if_neg hDn] at hst ⊢
              by_cases hDm : D m = true
              · rw [if_pos hDm] at hst ⊢; exact hRl1 _ _ _ _ hl hst
              · rw [if_neg hDm] at hst ⊢
                refine ⟨hst.1, fun i hi => ?_⟩
                by_cases q : i = k
                · subst q; rw [upd_same]; exact hΦv
                · rw [upd_ne _ _ q] at hi ⊢; exact hst.2 i hi
          | false =>
            have hDm : ¬ D m = true := fun hDm => by
              have := needL_all hneed hcl hDm _ k (by simpa using hklt) (Nat.le_refl _) (by simp [hl, hkn])
              rw [hD] at this; cases this
            have hDn : ¬ D n = true := fun h => hDm (hDnm h)
            rw [if_neg hDn, if_neg hDm] at hst
            refine Oper.wp_mono ?_ (s1 hl hkn hkm hst.1 (fun j hj => hst.2 j (hdep j hj)))
            rintro a' w' ⟨v, rfl, hb', hv'⟩
            refine ⟨v, rfl, hval v (fun u hu => hv _ _ _ _ hv' hu), hold v, ?_⟩
            rw [upd_ne _ _ (Ne.symm hkn), if_neg hDn, upd_ne _ _ (Ne.symm hkm), if_neg hDm]
            refine ⟨hst.1.trans (hb'.mono hst.1.size), fun i hi => ?_⟩
            by_cases q : i = k
            · subst q; rw [upd_same]; exact hv'
            · rw [upd_ne _ _ q] at hi ⊢
              exact hΦ i (x i) W w' (hst.2 i hi) hb'
    have aux : ∀ (r : List Oper) (s : Nat), (∀ k, r[k]? = l[s + k]?) → AllOps (fun i o => ∀ D x W (b : Act), PapI w0 m n e Φ R1 R (fun j => slotV a ((dstOf l.toArray).getD (j - 0) none)) D x W → D i = false → (∀ j ∈ deps o, D j = true) → (∀ j, D j = true → ∀ q ∈ depsAt l.toArray j, D q = true) → (∀ t : Nat, b.tmps[t]?.getD undef = look (dstOf l.toArray) x a t) → o.wp P b W (StepPost (PapI w0 m n e Φ R1 R (fun j => slotV a ((dstOf l.toArray).getD (j - 0) none))) D x i b o.dst) NoQ) s r := by
      intro r
      induction r with
      | nil => intro s _; trivial
      | cons o r ih =>
        intro s hr
        refine ⟨key s o (by have := hr 0; simpa using this.symm), ih (s + 1) (fun k => ?_)⟩
        have := hr (k + 1)
        rw [List.getElem?_cons_succ] at this
        rw [this]; congr 1; omega
    exact aux l 0 (fun k => by rw [Nat.zero_add])
  · intro D x W hI hall
    have hst := hI.st
    rw [if_pos (hall n hnl2)] at hst
    exact hend x W hst (fun i v hi hv2 => hI.val i v (hall i hi) hv2)
theorem pap_app {R1 : (Nat → Value) → World → Prop} {x : Nat → Value} {m : Nat} {o : Oper} {b : Act} {w : World} {α : Type} {e : TypeId} {sz : Nat} {enc : α → List Value} {base : Nat} {v u : Value} {xs ys : List α} (E : ElA P e sz enc) (s q : Operand) (t t2 : TypeId) (ho : o.op = .call { callee := .builtin .append, args := #[s, q], argTypes := #[t, t2] })
    (ht : P.underlying t = some (.slice e)) (ht2 : P.underlying t2 = some (.slice e)) (hv : b.eval s = v) (h : OwnA e sz enc base w v xs) (hx : b.eval q = u) (hu : SlA enc w u ys) (hlen : xs.length + ys.length ≤ 1000000000) (hbase : base ≤ w.heap.size)
    (hR : ∀ v' w', OwnA e sz enc base w' v' (xs ++ ys) → Below base w w' → (∀ k, k < w.heap.size → v.ownBlock ≠ some k → w'.heap[k]? = w.heap[k]?) → R1 (upd x m v') w') {ev : Option Value} (he : ev = none) : o.wp P b w (fun a' w' => ∃ v, a' = b.put o.dst v ∧ R1 (upd x m v) w' ∧ ∀ u, ev = some u → v = u) NoQ :=
  wp_appA E s q t t2 ho ht ht2 hv h hx hu hlen hbase fun v' w' h1 h2 h3 h4 => ⟨v', rfl, hR v' w' h1 h2 h3, fun u hu => by rw [he] at hu; cases hu⟩
end
end Go.Proofs.YtlbihllmpbhhcaaDoor

namespace Go.Proofs.YtlbihllmpbhhcaaDoor
open Go.RowKit
set_option linter.unusedVariables false

/-- a letter that is none for the rank -/
def badL (rank x : Int) : Bool := decide (rank < 1) || x == 0 || decide (rank < x) || decide (x < -rank)
def vldW (ws : List Int) (rank : Int) : Bool := !(ws.any (badL rank))
theorem badL_true {rank x : Int} (h : rank < 1 ∨ x = 0 ∨ rank < x ∨ x < -rank) : badL rank x = true := by
  unfold badL
  rcases h with h | h | h | h <;> simp [h]
theorem badL_false {rank x : Int} (h : ¬ (rank < 1 ∨ x = 0 ∨ rank < x ∨ x < -rank)) : badL rank x = false := by
  unfold badL
  have h1 : ¬ rank < 1 := fun e => h (.inl e)
  have h2 : ¬ x = 0 := fun e => h (.inr (.inl e))
  have h3 : ¬ rank < x := fun e => h (.inr (.inr (.inl e)))
  have h4 : ¬ x < -rank := fun e => h (.inr (.inr (.inr e)))
  simp [h1, h2, h3, h4]
theorem vldW_iff {ws : List Int} {rank : Int} : vldW ws rank = true ↔ ∀ x ∈ ws, 1 ≤ rank ∧ x ≠ 0 ∧ x ≤ rank ∧ -rank ≤ x := by
  unfold vldW
  rw [Bool.not_eq_true', List.any_eq_false]
  constructor
  · intro h x hx
    have h1 := h x hx
    have : ¬ (rank < 1 ∨ x = 0 ∨ rank < x ∨ x < -rank) := fun e => h1 (badL_true e)
    omega
  · intro h x hx
    have h1 := h x hx
    rw [badL_false (by omega)]; simp
theorem any_take_bad {ws : List Int} {rank : Int} {k : Nat} (hk : k < ws.length) (h : badL rank ws[k] = true) : vldW ws rank = false := by
  unfold vldW
  rw [Bool.not_eq_false', List.any_eq_true]
  exact ⟨_, List.getElem_mem hk, h⟩
set_option maxHeartbeats 1000000 in
theorem wvalid_any (vw : Value) (ws : List Int) (rank : Int) (w : World) (hw : Ints w vw ws) (hr : -1000000 ≤ rank ∧ rank ≤ 9223372036854775807) (hl : ws.length ≤ 4611686018427387904) :
    Calls Tryd.prog 31 #[vw, .int .i64 rank] w fun e w' => e = .returned (.bool (vldW ws rank)) ∧ w = w' := by
  have HW := Lib.hid hw
  obtain ⟨A, c, rfl, hcap, _⟩ := hw
  obtain ⟨V, hV⟩ : ∃ V, V = vldW ws rank := ⟨_, rfl⟩
  rw [← hV]
  have HV := Lib.hid hV
  clear hV
  go_enter Tryd.func31, Tryd.ntmps31
  go_wp2_with fail
  go_loopg [6, 9] ws.length (fun gk s6 s9 wr => ∃ k : Nat, k ≤ ws.length ∧ gk = ws.length - k ∧ s9 = .int .i64 (k : Int) ∧ Hid (∀ x ∈ ws.take k, badL rank x = false) ∧ w = wr)
  case atStart => exact ⟨0, Nat.zero_le _, rfl, rfl, Lib.hid (fun x hx => by simp at hx), rfl⟩
  case round =>
    obtain ⟨k, hk, rfl, rfl, HK, rfl⟩ := hrel
    by_cases hlt : k < ws.length
    · have z1 : (k : Int) < (ws.length : Int) := by omega
      obtain ⟨b, o, ⟨c', hv⟩, hbl, hcell⟩ := ints_atZ HW.out hlt
      injection hv with hv1 hv2 hv3
      subst hv1 hv3
      clear hv2
      have HBB := Lib.hid (fun h => any_take_bad (rank := rank) hlt (badL_true h))
      have HKN := Lib.hid (fun (h : ¬ (rank < 1 ∨ ws[k] = 0 ∨ rank < ws[k] ∨ ws[k] < -rank)) => (show ∀ x ∈ ws.take (k + 1), badL rank x = false from fun x hx => by
        rw [take_snocZ hlt] at hx
        rcases List.mem_append.1 hx with hx | hx
        · exact HK.out x hx
        · rw [List.mem_singleton.1 hx]; exact badL_false h))
      clear HK
      generalize ws[k] = x at *
      by_cases c1 : rank < 1
      · have HB := Lib.hid (HBB.out (.inl c1))
        clear HBB HKN
        go_wp2_with fail
        go_ret
        exact ⟨by rw [HV.out, HB.out]; rfl, rfl⟩
      · by_cases c2 : x = 0
        · have HB := Lib.hid (HBB.out (.inr (.inl c2)))
          have z2 : (x == 0) = true := by simp [c2]
          clear HBB HKN c2
          go_wp2_with fail
          go_ret
          exact ⟨by rw [HV.out, HB.out]; rfl, rfl⟩
        · have z2 : (x == 0) = false := by simp [c2]
          by_cases c3 : rank < x
          · have HB := Lib.hid (HBB.out (.inr (.inr (.inl c3))))
            clear HBB HKN c2
            go_wp2_with fail
            go_ret
            exact ⟨by rw [HV.out, HB.out]; rfl, rfl⟩
          · by_cases c4 : x < -rank
            · have HB := Lib.hid (HBB.out (.inr (.inr (.inr c4))))
              clear HBB HKN c2
              go_wp2_with fail
              go_ret
              exact ⟨by rw [HV.out, HB.out]; rfl, rfl⟩
            · have HK2 := Lib.hid (HKN.out (by omega))
              clear HBB HKN c2
              go_wp2_with fail
              go_roundg (ws.length - (k + 1))
              case measure => omega
              case rel => exact ⟨k + 1, by omega, rfl, by go_num, HK2, rfl⟩
    · have z1 : ¬ ((k : Int) < (ws.length : Int)) := by omega
      have hkn : k = ws.length := by omega
      have HB := Lib.hid (show vldW ws rank = true from by
        unfold vldW
        rw [Bool.not_eq_true', List.any_eq_false]
        intro x hx
        rw [HK.out x (by rw [hkn, List.take_length]; exact hx)]; simp)
      clear hkn HK
      go_wp2_with fail
      go_ret
      exact ⟨by rw [HV.out, HB.out]; rfl, rfl⟩
end Go.Proofs.YtlbihllmpbhhcaaDoor
