/- A region that draws its order, whose operations leave what was there as it is (they may make memory and call): each operation is walked once; of each result a fact that later growth keeps. -/
/- A region that draws its order, with one store into memory that it has made, and operations that compute alone before or behind it. -/
/- bivariate: a map from pairs of exponents to sums. -/
/- bivariate: what the map of sums holds. -/
import Derived.Test.YtbfggncmjdhapaaGreatDoorZFacts
import Derived.Test.YtbfggncmjdhapaaGreatDoorZBld
import Derived.Test.YtbfggncmjdhapaaGreatDoorZBsm
import Derived.Maps.OwnSet
import Derived.Maps.OwnOps
import Derived.DeepKeys4
import Derived.OpenShut
namespace Go.Proofs.YtbfggncmjdhapaaGreatDoor
open Go.RowKit
set_option linter.unusedVariables false

section
variable {P : Program} {ops : Array Oper} {Q : Exit → Act → World → Prop}
/-- The region by facts. 'x i' is the value of operation i, 'D i' says that it has come up. -/
theorem wp_region_facts2 {id : Nat} {a : Act} {w : World} (hm : P.follows .mixedOrders = true) (hd : apartD (dstOf ops) = true) (hb : backD ops = true)
    (I : (Nat → Bool) → (Nat → Value) → World → Prop)
    (h0 : I (fun _ => false) (fun j => slotV a ((dstOf ops).getD (j - 0) none)) w.drew)
    (hstep : ∀ i o, ops[i]? = some o → ∀ D x w, I D x w → D i = false → (∀ j ∈ deps o, D j = true) → (∀ j, D j = true → ∀ k ∈ depsAt ops j, D k = true) → wpOp P ops Q i (fun a' w' => ∃ v, a' = (putAll (dstOf ops) 0 x a).put o.dst v ∧ I (upd D i true) (upd x i v) w') (putAll (dstOf ops) 0 x a) w)
    (hend : ∀ D x w, I D x w → (∀ i, i < ops.size → D i = true) → Q .normal (putAll (dstOf ops) 0 x a) w) : (Code.region id ops true).wp P Q a w := by
  refine wp_region_any hm (wpAny_inv hb (fun l a' w' => ∃ x, a' = putAll (dstOf ops) 0 x a ∧ (∀ j, l.getD j false = true → ∀ k ∈ depsAt ops j, l.getD k false = true) ∧ I (fun j => l.getD j false) x w') ?_ ?_ _ _ _ _ (by simp) ?_ ?_)
  · rintro l a' w' i hs ⟨x, rfl, hcl, hI⟩ hi
    obtain ⟨hun, o, ho, hdep⟩ := mem_ready.1 hi
    have hlt : i < ops.size := (Array.getElem?_eq_some_iff.1 ho).1
    have hdi : (dstOf ops).getD i none = o.dst := by
      have : ops[i] = o := by simpa [hlt] using ho
      simp [dstOf, hlt, this]
    have hdp : ∀ j ∈ deps o, l.getD j false = true := by
      intro j hj
      simp only [deps, List.mem_map, List.mem_filter] at hj
      obtain ⟨e, ⟨he, hbe⟩, rfl⟩ := hj
      exact hdep e (by simpa using he) hbe
    refine wpOp_mono ?_ (hstep i o ho (fun j => l.getD j false) x w' hI (by have h' : i < l.size := by omega
                                                                            simpa [Array.getD, h'] using hun) hdp hcl)
    · rintro a'' w'' ⟨v, rfl, hI'⟩
      refine ⟨upd x i v, ?_, ?_, ?_⟩
      · rw [← hdi, putAll_upd _ _ _ _ _ _ hd (by simpa [dstOf] using hlt), Nat.zero_add]
      · intro j hj k hk
        by_cases e : k = i
        · subst e
          have h' : k < l.size := by omega
          simp [Array.getD, h']
        rw [getD_set_ne _ (Ne.symm e)]
        by_cases ej : j = i
        · subst ej
          simp only [depsAt, ho] at hk
          exact hdp k hk
        · rw [getD_set_ne _ (Ne.symm ej)] at hj
          exact hcl j hj k hk
      · have : (fun j => (l.setIfInBounds i true).getD j false) = upd (fun j => l.getD j false) i true := by
          funext j
          by_cases e : j = i
          · subst e
            have h' : j < l.size := by omega
            simp [upd, Array.getD, h']
          · rw [upd_ne _ _ e, getD_set_ne _ (Ne.symm e)]
        rw [this]
        exact hI'
  · rintro l a' w' hs ⟨x, rfl, _, hI⟩ hall
    refine hend _ x w' hI (fun i hi => ?_)
    have := hall i hi
    cases hl : l.getD i false with
    | true => rfl
    | false => 
      rcases Nat.lt_or_ge i l.size with h' | h'
      · simp [Array.getD, h'] at this hl; rw [this] at hl; cases hl
      · omega
  · exact Nat.le_trans List.countP_le_length (by simp)
  · refine ⟨_, (putAll_start _ 0 a hd).symm, fun j hj => ?_, ?_⟩
    · by_cases h : j < ops.size <;> simp [Array.getD, h] at hj
    have : (fun j => (Array.replicate ops.size false).getD j false) = fun _ => false := by
      funext j
      by_cases h : j < ops.size <;> simp [Array.getD, h]
    rw [this]
    exact h0
/-- the region by facts, no operation guarded -/
theorem wp_region_facts2U {id : Nat} {l : List Oper} {a : Act} {w : World} (hm : P.follows .mixedOrders = true) (hd : apartD (dstOf l.toArray) = true) (hb : backD l.toArray = true) (hg : l.all (fun o => o.guard.isNone) = true) (hn : inD a.tmps.size (dstOf l.toArray) = true)
    (I : (Nat → Bool) → (Nat → Value) → World → Prop)
    (h0 : I (fun _ => false) (fun j => slotV a ((dstOf l.toArray).getD (j - 0) none)) w.drew)
    (hstep : AllOps (fun i o => ∀ D x w (b : Act), I D x w → D i = false → (∀ j ∈ deps o, D j = true) → (∀ j, D j = true → ∀ k ∈ depsAt l.toArray j, D k = true) → (∀ t : Nat, b.tmps[t]?.getD undef = look (dstOf l.toArray) x a t) → o.wp P b w (StepPost I D x i b o.dst) NoQ) 0 l)
    (hend : ∀ D x w, I D x w → (∀ i, i < l.length → D i = true) → Q .normal (putAll (dstOf l.toArray) 0 x a) w) : (Code.region id l.toArray true).wp P Q a w := by
  refine wp_region_facts2 hm hd hb I h0 (fun i o ho D x w hI hD hdep hcl => ?_) (fun D x w hI h => hend D x w hI (by simpa using h))
  have ho' : l[i]? = some o := by simpa using ho
  refine wpOp_plain ho ?_ ?_
  · have := List.all_eq_true.1 hg o (List.mem_of_getElem? ho')
    simpa using this
  · have := hstep.get _ _ i o ho' D x w (putAll (dstOf l.toArray) 0 x a)
    rw [Nat.zero_add] at this
    refine wp_noQ (this hI hD hdep hcl (fun t => ?_))
    rw [← Array.getD_eq_getD_getElem?, putAll_look _ _ _ _ _ hd hn]
    unfold look
    simp only [Nat.zero_add]
end
section
variable {P : Program} {Q : Exit → Act → World → Prop}
/-- behind one operation -/
def PhiPost (w : World) (Φ : Nat → Value → World → Prop) (i : Nat) (b : Act) (d : Option Tmp) (a' : Act) (w' : World) : Prop := ∃ v, a' = b.put d v ∧ Below w.heap.size w w' ∧ Φ i v w'
def PhiI (w0 : World) (Φ : Nat → Value → World → Prop) (x0 : Nat → Value) (D : Nat → Bool) (x : Nat → Value) (w : World) : Prop := Below w0.heap.size w0 w ∧ (∀ i, D i = true → Φ i (x i) w) ∧ ∀ i, D i = false → x i = x0 i
theorem wp_region_phi {id : Nat} {l : List Oper} {a : Act} {w0 : World} (hm : P.follows .mixedOrders = true) (hd : apartD (dstOf l.toArray) = true) (hb : backD l.toArray = true) (hg : l.all (fun o => o.guard.isNone) = true) (hn : inD a.tmps.size (dstOf l.toArray) = true)
    (Φ : Nat → Value → World → Prop) (hΦ : ∀ i v w w', Φ i v w → Below w.heap.size w w' → Φ i v w')
    (hstep : AllOps (fun i o => ∀ (x : Nat → Value) w (b : Act), Below w0.heap.size w0 w → (∀ j ∈ deps o, Φ j (x j) w) → (∀ j, i ∈ depsAt l.toArray j → x j = slotV a ((dstOf l.toArray).getD (j - 0) none)) → (∀ t : Nat, b.tmps[t]?.getD undef = look (dstOf l.toArray) x a t) → o.wp P b w (PhiPost w Φ i b o.dst) NoQ) 0 l)
    (hend : ∀ (x : Nat → Value) w, Below w0.heap.size w0 w → (∀ i, i < l.length → Φ i (x i) w) → Q .normal (putAll (dstOf l.toArray) 0 x a) w) : (Code.region id l.toArray true).wp P Q a w0 := by
  refine wp_region_facts2U hm hd hb hg hn (PhiI w0 Φ (fun j => slotV a ((dstOf l.toArray).getD (j - 0) none))) ⟨(Below.refl _ _).drew, fun i h => Bool.noConfusion h, fun _ _ => rfl⟩ ?_ ?_
  · have key : ∀ k o, l[k]? = some o → ∀ D x W (b : Act), PhiI w0 Φ (fun j => slotV a ((dstOf l.toArray).getD (j - 0) none)) D x W → D k = false → (∀ j ∈ deps o, D j = true) → (∀ j, D j = true → ∀ q ∈ depsAt l.toArray j, D q = true) → (∀ t : Nat, b.tmps[t]?.getD undef = look (dstOf l.toArray) x a t) → o.wp P b W (StepPost (PhiI w0 Φ (fun j => slotV a ((dstOf l.toArray).getD (j - 0) none))) D x k b o.dst) NoQ := by
      intro k o ho D x W b hI hD hdep hcl hbt
      have hs := hstep.get _ _ k o ho x W b hI.1 (fun j hj => hI.2.1 j (hdep j hj)) (fun j hj => hI.2.2 j (by
        cases h : D j with
        | false => rfl
        | true =>
          rw [Nat.zero_add] at hj
          have := hcl j h k hj
          rw [hD] at this; cases this)) hbt
      rw [Nat.zero_add] at hs
      refine Oper.wp_mono ?_ hs
      rintro a' w' ⟨v, rfl, hb', hv⟩
      refine ⟨v, rfl, hI.1.trans (hb'.mono hI.1.size), fun i hi => ?_, fun i hi => ?_⟩
      · by_cases e : i = k
        · subst e; rw [upd_same]; exact hv
        · rw [upd_ne _ _ e] at hi ⊢
          exact hΦ i (x i) W w' (hI.2.1 i hi) hb'
      · by_cases e : i = k
        · subst e; rw [upd_same] at hi; cases hi
        · rw [upd_ne _ _ e] at hi ⊢
          exact hI.2.2 i hi
    have aux : ∀ (r : List Oper) (s : Nat), (∀ k, r[k]? = l[s + k]?) → AllOps (fun i o => ∀ D x W (b : Act), PhiI w0 Φ (fun j => slotV a ((dstOf l.toArray).getD (j - 0) none)) D x W → D i = false → (∀ j ∈ deps o, D j = true) → (∀ j, D j = true → ∀ q ∈ depsAt l.toArray j, D q = true) → (∀ t : Nat, b.tmps[t]?.getD undef = look (dstOf l.toArray) x a t) → o.wp P b W (StepPost (PhiI w0 Φ (fun j => slotV a ((dstOf l.toArray).getD (j - 0) none))) D x i b o.dst) NoQ) s r := by
      intro r
      induction r with
      | nil => intro s _; trivial
      | cons o r ih =>
        intro s hr
        refine ⟨key s o (by have := hr 0; simpa using this.symm), ih (s + 1) (fun k => ?_)⟩
        have := hr (k + 1)
        rw [List.getElem?_cons_succ] at this
        rw [this]; congr 1; omega
    exact aux l 0 (fun k => by rw [Nat.zero_add])
  · intro D x W hI hall
    exact hend x W hI.1 (fun i hi => hI.2.1 i (hall i hi))
variable {w : World} {Φ : Nat → Value → World → Prop} {i : Nat} {b : Act} {o : Oper}
theorem phi_run (v : Value) (h : (execOp b.eval o).run P w = .ok (.value v) w) (hv : Φ i v w) : o.wp P b w (PhiPost w Φ i b o.dst) NoQ := by
  unfold Oper.wp; rw [h]; exact ⟨v, rfl, Below.refl _ _, hv⟩
theorem phi_make (v : Value) (w' : World) (h : (execOp b.eval o).run P w = .ok (.value v) w') (hb : Below w.heap.size w w') (hv : Φ i v w') : o.wp P b w (PhiPost w Φ i b o.dst) NoQ := by
  unfold Oper.wp; rw [h]; exact ⟨v, rfl, hb, hv⟩
theorem phi_call {f : FuncId} {args : Array Value} (h : (execOp b.eval o).run P w = .ok (.enter f args) w) (hc : Calls P f args w fun e w' => ∃ v, e = .returned v ∧ Below w.heap.size w w' ∧ Φ i v w') : o.wp P b w (PhiPost w Φ i b o.dst) NoQ := by
  unfold Oper.wp; rw [h]
  simp only [Oper.upon]
  refine hc.mono ?_
  rintro e w' ⟨v, rfl, hb, hv⟩
  exact ⟨v, rfl, hb, hv⟩
/-- the facts of a table: a value for each operation, but for those with a property of their own -/
def phiT (ev : Nat → Option Value) (Ψ : Nat → Value → World → Prop) (i : Nat) (v : Value) (w : World) : Prop := match ev i with | some u => v = u | none => Ψ i v w
end
end Go.Proofs.YtbfggncmjdhapaaGreatDoor

namespace Go.Proofs.YtbfggncmjdhapaaGreatDoor
open Go.RowKit
set_option linter.unusedVariables false

/-- every operation but the late ones is needed by the store -/
def needL (ops : Array Oper) (n : Nat) (late : Nat → Bool) : Bool := (List.range ops.size).all fun i => decide (i = n) || late i || (List.range ops.size).any fun j => (decide (j = n) || (!late j && decide (i < j))) && (depsAt ops j).contains i
theorem needL_all {ops : Array Oper} {n : Nat} {late : Nat → Bool} (h : needL ops n late = true) {D : Nat → Bool} (hcl : ∀ j, D j = true → ∀ k ∈ depsAt ops j, D k = true) (hn : D n = true) : ∀ q i, i < ops.size → ops.size - i ≤ q → late i = false → D i = true := by
  intro q
  induction q with
  | zero => intro i h1 h2; omega
  | succ q ih =>
    intro i h1 h2 hl
    by_cases e : i = n
    · rw [e]; exact hn
    · have h3 := List.all_eq_true.1 h i (by simpa using h1)
      simp only [Bool.or_eq_true, decide_eq_true_eq, e, hl, false_or, Bool.false_eq_true] at h3
      obtain ⟨j, hj, h4⟩ := List.any_eq_true.1 h3
      simp only [Bool.and_eq_true, Bool.or_eq_true, decide_eq_true_eq, List.contains_iff_mem, Bool.not_eq_true'] at h4
      simp only [List.mem_range] at hj
      rcases h4.1 with e2 | e2
      · subst e2; exact hcl j hn i h4.2
      · exact hcl j (ih j hj (by omega) e2.1) i h4.2
section
variable {P : Program} {Q : Exit → Act → World → Prop}
structure PhlI (w0 : World) (n : Nat) (e : Nat → Option Value) (Φ : Nat → Value → World → Prop) (R : (Nat → Value) → World → Prop) (x0 : Nat → Value) (D : Nat → Bool) (x : Nat → Value) (w : World) : Prop where
  val : ∀ i v, D i = true → e i = some v → x i = v
  old : ∀ i, D i = false → x i = x0 i
  st : if D n = true then R x w else Below w0.heap.size w0 w ∧ ∀ i, D i = true → Φ i (x i) w
theorem wp_region_phil {id : Nat} {l : List Oper} {a : Act} {w0 : World} (n : Nat) (late : Nat → Bool) (hm : P.follows .mixedOrders = true) (hd : apartD (dstOf l.toArray) = true) (hb : backD l.toArray = true) (hg : l.all (fun o => o.guard.isNone) = true) (hn : inD a.tmps.size (dstOf l.toArray) = true)
    (hlt : late n = false) (hnl2 : n < l.length) (hneed : needL l.toArray n late = true)
    (e : Nat → Option Value) (Φ : Nat → Value → World → Prop) (hΦ : ∀ i v w w', Φ i v w → Below w.heap.size w w' → Φ i v w') (hv : ∀ i u v w, Φ i u w → e i = some v → u = v) (R : (Nat → Value) → World → Prop) (hRl : ∀ x w i v, late i = true → R x w → R (upd x i v) w)
    (hstep : AllOps (fun i o => ∀ (x : Nat → Value) w (b : Act), (∀ j, i ∈ depsAt l.toArray j → x j = slotV a ((dstOf l.toArray).getD (j - 0) none)) → (∀ t : Nat, b.tmps[t]?.getD undef = look (dstOf l.toArray) x a t) →
      (late i = false → i ≠ n → Below w0.heap.size w0 w → (∀ j ∈ deps o, Φ j (x j) w) → o.wp P b w (PhiPost w Φ i b o.dst) NoQ) ∧
      (i = n → Below w0.heap.size w0 w → (∀ j ∈ deps o, Φ j (x j) w) → o.wp P b w (fun a' w' => ∃ v, a' = b.put o.dst v ∧ R (upd x n v) w' ∧ ∀ u, e n = some u → v = u) NoQ) ∧
      (late i = true → (∀ j ∈ deps o, ∀ v, e j = some v → x j = v) → ∃ v, e i = some v ∧ (execOp b.eval o).run P w = .ok (.value v) w ∧ Φ i v w)) 0 l)
    (hend : ∀ (x : Nat → Value) w, R x w → (∀ i v, i < l.length → e i = some v → x i = v) → Q .normal (putAll (dstOf l.toArray) 0 x a) w) : (Code.region id l.toArray true).wp P Q a w0 := by
  refine wp_region_facts2U hm hd hb hg hn (PhlI w0 n e Φ R (fun j => slotV a ((dstOf l.toArray).getD (j - 0) none))) ⟨fun i v h => Bool.noConfusion h, fun _ _ => rfl, by rw [if_neg (by simp)]; exact ⟨(Below.refl _ _).drew, fun i h => Bool.noConfusion h⟩⟩ ?_ ?_
  · have key : ∀ k o, l[k]? = some o → ∀ D x W (b : Act), PhlI w0 n e Φ R (fun j => slotV a ((dstOf l.toArray).getD (j - 0) none)) D x W → D k = false → (∀ j ∈ deps o, D j = true) → (∀ j, D j = true → ∀ q ∈ depsAt l.toArray j, D q = true) → (∀ t : Nat, b.tmps[t]?.getD undef = look (dstOf l.toArray) x a t) → o.wp P b W (StepPost (PhlI w0 n e Φ R (fun j => slotV a ((dstOf l.toArray).getD (j - 0) none))) D x k b o.dst) NoQ := by
      intro k o ho D x W b hI hD hdep hcl hbt
      have hklt : k < l.length := (List.getElem?_eq_some_iff.1 ho).1
      have hs := hstep.get _ _ k o ho x W b (fun j hj => hI.old j (by
        cases h : D j with
        | false => rfl
        | true =>
          rw [Nat.zero_add] at hj
          have := hcl j h k hj
          rw [hD] at this; cases this)) hbt
      rw [Nat.zero_add] at hs
      obtain ⟨s1, s2, s3⟩ := hs
      have hold : ∀ v, ∀ i, upd D k true i = false → upd x k v i = slotV a ((dstOf l.toArray).getD (i - 0) none) := fun v i hi => by
        by_cases q : i = k
        · subst q; rw [upd_same] at hi; cases hi
        · rw [upd_ne _ _ q] at hi ⊢; exact hI.old i hi
      have hval : ∀ v, (∀ u, e k = some u → v = u) → ∀ i u, upd D k true i = true → e i = some u → upd x k v i = u := fun v hvk i u hi hu => by
        by_cases q : i = k
        · subst q; rw [upd_same]; exact hvk u hu
        · rw [upd_ne _ _ q] at hi ⊢; exact hI.val i u hi hu
      have hst := hI.st
      by_cases hkn : k = n
      · subst hkn
        rw [hD, if_neg (by simp)] at hst
        refine Oper.wp_mono ?_ (s2 rfl hst.1 (fun j hj => hst.2 j (hdep j hj)))
        rintro a' w' ⟨v, rfl, hR, hvk⟩
        exact ⟨v, rfl, hval v hvk, hold v, by rw [upd_same, if_pos rfl]; exact hR⟩
      · cases hl : late k with
        | true =>
          obtain ⟨v, hev, hrun, hΦv⟩ := s3 hl (fun j hj u hu => hI.val j u (hdep j hj) hu)
          unfold Oper.wp
          rw [hrun]
          refine ⟨v, rfl, hval v (fun u hu => by rw [hev] at hu; injection hu), hold v, ?_⟩
          rw [upd_ne _ _ (Ne.symm hkn)]
          by_cases hDn : D n = true
          · rw [if_pos hDn] at hst ⊢; exact hRl _ _ _ _ hl hst
          · rw [if_neg hDn] at hst ⊢
            refine ⟨hst.1, fun i hi => ?_⟩
            by_cases q : i = k
            · subst q; rw [upd_same]; exact hΦv
            · rw [upd_ne _ _ q] at hi ⊢; exact hst.2 i hi
        | false =>
          have hDn : ¬ D n = true := fun hDn => by
            have := needL_all hneed hcl hDn _ k (by simpa using hklt) (Nat.le_refl _) hl
            rw [hD] at this; cases this
          rw [if_neg hDn] at hst
          refine Oper.wp_mono ?_ (s1 hl hkn hst.1 (fun j hj => hst.2 j (hdep j hj)))
          rintro a' w' ⟨v, rfl, hb', hv'⟩
          refine ⟨v, rfl, hval v (fun u hu => hv _ _ _ _ hv' hu), hold v, ?_⟩
          rw [upd_ne _ _ (Ne.symm hkn), if_neg hDn]
          refine ⟨hst.1.trans (hb'.mono hst.1.size), fun i hi => ?_⟩
          by_cases q : i = k
          · subst q; rw [upd_same]; exact hv'
          · rw [upd_ne _ _ q] at hi ⊢
            exact hΦ i (x i) W w' (hst.2 i hi) hb'
    have aux : ∀ (r : List Oper) (s : Nat), (∀ k, r[k]? = l[s + k]?) → AllOps (fun i o => ∀ D x W (b : Act), PhlI w0 n e Φ R (fun j => slotV a ((dstOf l.toArray).getD (j - 0) none)) D x W → D i = false → (∀ j ∈ deps o, D j = true) → (∀ j, D j = true → ∀ q ∈ depsAt l.toArray j, D q = true) → (∀ t : Nat, b.tmps[t]?.getD undef = look (dstOf l.toArray) x a t) → o.wp P b W (StepPost (PhlI w0 n e Φ R (fun j => slotV a ((dstOf l.toArray).getD (j - 0) none))) D x i b o.dst) NoQ) s r := by
      intro r
      induction r with
      | nil => intro s _; trivial
      | cons o r ih =>
        intro s hr
        refine ⟨key s o (by have := hr 0; simpa using this.symm), ih (s + 1) (fun k => ?_)⟩
        have := hr (k + 1)
        rw [List.getElem?_cons_succ] at this
        rw [this]; congr 1; omega
    exact aux l 0 (fun k => by rw [Nat.zero_add])
  · intro D x W hI hall
    have hst := hI.st
    have hnl : n < l.length ∨ ¬ n < l.length := by omega
    by_cases hDn : D n = true
    · rw [if_pos hDn] at hst
      exact hend x W hst (fun i v hi hv2 => hI.val i v (hall i hi) hv2)
    · rcases hnl with h | h
      · exact absurd (hall n h) hDn
      · exact absurd hnl2 h
theorem phiT_val {ev : Nat → Option Value} {Ψ : Nat → Value → World → Prop} {i : Nat} {v u : Value} {w : World} (h : phiT ev Ψ i v w) (he : ev i = some u) : v = u := by
  unfold phiT at h; rw [he] at h; exact h
theorem phl_st {R : (Nat → Value) → World → Prop} {x : Nat → Value} {n : Nat} {o : Oper} {b : Act} {w : World} (W : World) (h : (execOp b.eval o).run P w = .ok .skip W) (ho : o.dst = none) (hR : ∀ v, R (upd x n v) W) {e : Option Value} (he : e = none) : o.wp P b w (fun a' w' => ∃ v, a' = b.put o.dst v ∧ R (upd x n v) w' ∧ ∀ u, e = some u → v = u) NoQ := by
  unfold Oper.wp; rw [h]; exact ⟨undef, by rw [ho], hR _, fun u hu => by rw [he] at hu; cases hu⟩
end
end Go.Proofs.YtbfggncmjdhapaaGreatDoor

namespace Go.Proofs.YtbfggncmjdhapaaGreatDoor
open Go.RowKit Go.Maps
set_option linter.unusedVariables false

/-- a pair of exponents as a value -/
def mkK (e : K2) : Value := .agg #[.int .i64 e.1, .int .i64 e.2]
def keyB (e : K2) : Lit := .string (keyBytes [.int .i64 e.1, .int .i64 e.2])
/-- both fit into 64 bits -/
def rkB (e : K2) : Prop := (-9223372036854775808 ≤ e.1 ∧ e.1 ≤ 9223372036854775807) ∧ (-9223372036854775808 ≤ e.2 ∧ e.2 ≤ 9223372036854775807)
theorem laidOutB13 : laidOutB Tryz.prog = true := by kernel_rfl
theorem und_pair : Tryz.prog.underlying 70 = some (.array 2 3) := by kernel_rfl
theorem und_int : Tryz.prog.underlying 3 = some (.int .i64) := by kernel_rfl
theorem cellsOf_pair : Tryz.prog.cellsOf 70 = 2 := by kernel_rfl
theorem cellsOf_int : Tryz.prog.cellsOf 3 = 1 := by kernel_rfl
theorem key_law : WideMaps.KeyLaw Tryz.prog 70 := deep_law_laid laidOutB13 (m := 2) (by decide) (of_decide_eq_true (by kernel_rfl)) (by kernel_rfl) (by rw [und_pair])
theorem keyed_pair : Keyed Tryz.prog 70 := Keyed.of_law key_law
theorem keyType_pair : Tryz.prog.keyType 70 = true := by kernel_rfl
theorem keyLits_int (d : Nat) (x : Int) : Tryz.prog.keyLits (d + 1) 3 [.int .i64 x] = if (Lit.int .i64 x).wf = true then some [.int .i64 x] else none := by
  unfold Program.keyLits
  rw [und_int]
  simp
theorem keyLits_pair (d : Nat) (a z : Int) : Tryz.prog.keyLits (d + 2) 70 [.int .i64 a, .int .i64 z] = if (Lit.int .i64 a).wf = true ∧ (Lit.int .i64 z).wf = true then some [.int .i64 a, .int .i64 z] else none := by
  unfold Program.keyLits
  rw [und_pair]
  simp only [cellsOf_pair, cellsOf_int, List.length_cons, List.length_nil, Nat.reduceAdd, if_true]
  have e1 : List.take 1 (List.drop (0 * 1) ([.int .i64 a, .int .i64 z] : List Value)) = [.int .i64 a] := rfl
  have e2 : List.take 1 (List.drop (1 * 1) ([.int .i64 a, .int .i64 z] : List Value)) = [.int .i64 z] := rfl
  rw [show List.range 2 = [0, 1] from rfl]
  simp only [List.mapM_cons, List.mapM_nil, e1, e2, keyLits_int]
  by_cases h1 : (Lit.int .i64 a).wf = true <;> by_cases h2 : (Lit.int .i64 z).wf = true <;> simp [h1, h2]
theorem formed_agg (cs : Array Value) : Value.formed Tryz.prog 70 (.agg cs) = (cs.size == 2) := by
  unfold Value.formed
  rw [und_pair, cellsOf_pair]
theorem size_tys : Tryz.prog.types.size + 1 = (Tryz.prog.types.size - 1) + 2 := by kernel_rfl
theorem keyOf_agg (cs : Array Value) : keyOf Tryz.prog 70 (.agg cs) = if cs.size = 2 then (Tryz.prog.keyLits ((Tryz.prog.types.size - 1) + 2) 70 cs.toList).map fun ls => .string (keyBytes ls) else none := by
  unfold keyOf
  rw [und_pair, keyType_pair, formed_agg, size_tys]
  by_cases h : cs.size = 2
  · rw [if_pos h, if_pos (by simp [h])]
    rfl
  · rw [if_neg h, if_neg (by simp [h])]
theorem key_pair {e : K2} (h : rkB e) : keyOf Tryz.prog 70 (mkK e) = some (keyB e) := by
  have h1 : (Lit.int .i64 e.1).wf = true := WalkArith.wf_i64 h.1
  have h2 : (Lit.int .i64 e.2).wf = true := WalkArith.wf_i64 h.2
  unfold mkK
  rw [keyOf_agg, if_pos (show (#[.int .i64 e.1, .int .i64 e.2] : Array Value).size = 2 from rfl), show (#[.int .i64 e.1, .int .i64 e.2] : Array Value).toList = [.int .i64 e.1, .int .i64 e.2] from rfl, keyLits_pair, if_pos ⟨h1, h2⟩]
  rfl
theorem keyB_inj {a b : K2} (ha : rkB a) (hb : rkB b) (h : keyB a = keyB b) : a = b := by
  have := key_law.inj (key_pair ha) (h ▸ key_pair hb)
  unfold mkK at this
  injection this with this
  injection this with this
  injection this with h1 h2
  injection h2 with h2 _
  injection h1 with _ h1
  injection h2 with _ h2
  exact Prod.ext h1 h2
theorem keyB_ne {a b : K2} (ha : rkB a) (hb : rkB b) (h : a ≠ b) : keyB a ≠ keyB b := fun q => h (keyB_inj ha hb q)
theorem keyLits_int_inv {d : Nat} {x : Value} {l : List Lit} (h : Tryz.prog.keyLits (d + 1) 3 [x] = some l) : ∃ a, x = .int .i64 a ∧ (Lit.int .i64 a).wf = true := by
  unfold Program.keyLits at h
  rw [und_int] at h
  cases x with
  | int q a =>
    by_cases c : q = .i64 ∧ (Lit.int .i64 a).wf = true
    · obtain ⟨rfl, w⟩ := c
      exact ⟨a, rfl, w⟩
    · by_cases hq : q = .i64
      · subst hq
        have c2 : ¬ (Lit.int .i64 a).wf = true := fun q => c ⟨rfl, q⟩
        simp [c2] at h
      · simp [hq] at h
  | _ => simp at h
theorem key_inv {v : Value} {l : Lit} (h : keyOf Tryz.prog 70 v = some l) : ∃ e : K2, rkB e ∧ v = mkK e ∧ l = keyB e := by
  have h0 := h
  have key : ∃ e : K2, rkB e ∧ v = mkK e := by
    by_cases hv : ∃ cs, v = .agg cs
    · obtain ⟨cs, rfl⟩ := hv
      rw [keyOf_agg] at h
      by_cases hs : cs.size = 2
      · rw [if_pos hs] at h
        obtain ⟨x, y, hc⟩ : ∃ x y, cs.toList = [x, y] := by
          have hl : cs.toList.length = 2 := by simpa using hs
          match cs.toList, hl with
          | [x, y], _ => exact ⟨x, y, rfl⟩
        rw [hc] at h
        obtain ⟨ls, hls, _⟩ := Option.map_eq_some_iff.1 h
        unfold Program.keyLits at hls
        rw [und_pair] at hls
        simp only [cellsOf_pair, cellsOf_int, List.length_cons, List.length_nil, Nat.reduceAdd, if_true] at hls
        have e1 : List.take 1 (List.drop (0 * 1) ([x, y] : List Value)) = [x] := rfl
        have e2 : List.take 1 (List.drop (1 * 1) ([x, y] : List Value)) = [y] := rfl
        rw [show List.range 2 = [0, 1] from rfl] at hls
        simp only [List.mapM_cons, List.mapM_nil, e1, e2] at hls
        cases g1 : Tryz.prog.keyLits ((Tryz.prog.types.size - 1) + 1) 3 [x] with
        | none => rw [g1] at hls; simp at hls
        | some l1 =>
          rw [g1] at hls
          cases g2 : Tryz.prog.keyLits ((Tryz.prog.types.size - 1) + 1) 3 [y] with
          | none => rw [g2] at hls; simp at hls
          | some l2 =>
            obtain ⟨a, rfl, w1⟩ := keyLits_int_inv g1
            obtain ⟨z, rfl, w2⟩ := keyLits_int_inv g2
            refine ⟨(a, z), ⟨bounds_i64 w1, bounds_i64 w2⟩, ?_⟩
            unfold mkK
            exact congrArg Value.agg (Array.ext' (by rw [hc]))
      · rw [if_neg hs] at h; cases h
    · exfalso
      unfold keyOf at h
      rw [und_pair] at h
      have : Value.formed Tryz.prog 70 v = false := by
        cases v <;> first | exact absurd ⟨_, rfl⟩ hv | (unfold Value.formed; first | rw [und_pair] | rfl)
      rw [this, Bool.and_false, if_neg (fun q => Bool.noConfusion q)] at h
      cases h
  obtain ⟨e, he, rfl⟩ := key
  refine ⟨e, he, rfl, ?_⟩
  rw [key_pair he] at h0
  exact (Option.some.inj h0).symm
end Go.Proofs.YtbfggncmjdhapaaGreatDoor

namespace Go.Proofs.YtbfggncmjdhapaaGreatDoor
open Go.RowKit Go.Maps
set_option linter.unusedVariables false

def hiT (t : T2) : T2 := (t.1, t.2 / 33554432)
def loT (t : T2) : T2 := (t.1, t.2 % 33554432)
def hiS (l : List T2) (e : K2) : Int := cg2 (l.map hiT) e
def loS (l : List T2) (e : K2) : Int := cg2 (l.map loT) e
theorem hilo (l : List T2) (e : K2) : hiS l e * 33554432 + loS l e = cg2 l e := by
  unfold hiS loS
  induction l with
  | nil => rfl
  | cons t l ih =>
    rw [List.map_cons, List.map_cons, cg2_cons, cg2_cons, cg2_cons]
    unfold hiT loT at *
    simp only
    by_cases h : t.1 = e
    · rw [if_pos h, if_pos h, if_pos h]; omega
    · rw [if_neg h, if_neg h, if_neg h]; omega
theorem hiS_snoc (l : List T2) (e x : K2) (c : Int) : hiS (l ++ [(e, c)]) x = hiS l x + if e = x then c / 33554432 else 0 := by
  unfold hiS; rw [List.map_append, cg2_append, List.map_cons, List.map_nil, cg2_one]; rfl
theorem loS_snoc (l : List T2) (e x : K2) (c : Int) : loS (l ++ [(e, c)]) x = loS l x + if e = x then c % 33554432 else 0 := by
  unfold loS; rw [List.map_append, cg2_append, List.map_cons, List.map_nil, cg2_one]; rfl
/-- coefficients of at most 62 bits -/
def Cb (l : List T2) : Prop := ∀ t ∈ l, -4611686018427387904 ≤ t.2 ∧ t.2 ≤ 4611686018427387904
theorem Cb.nil : Cb [] := fun t h => by cases h
theorem Cb.tail {t : T2} {l : List T2} (h : Cb (t :: l)) : Cb l := fun s hs => h s (List.mem_cons_of_mem _ hs)
theorem Cb.append {l m : List T2} (h : Cb l) (k : Cb m) : Cb (l ++ m) := fun t ht => by
  rcases List.mem_append.1 ht with ht | ht
  · exact h t ht
  · exact k t ht
theorem hiS_bd {l : List T2} (h : Cb l) (e : K2) : -(137438953472 * (l.length : Int)) ≤ hiS l e ∧ hiS l e ≤ 137438953472 * (l.length : Int) := by
  unfold hiS
  induction l with
  | nil => simp [cg2]
  | cons t l ih =>
    have h1 := ih h.tail
    have h2 := h t (List.mem_cons_self ..)
    rw [List.map_cons, cg2_cons, List.length_cons]
    unfold hiT
    simp only
    by_cases hh : t.1 = e
    · rw [if_pos hh]
      unfold hiT at h1
      omega
    · rw [if_neg hh]
      unfold hiT at h1
      omega
theorem loS_bd (l : List T2) (e : K2) : 0 ≤ loS l e ∧ loS l e ≤ 33554432 * (l.length : Int) := by
  unfold loS
  induction l with
  | nil => simp [cg2]
  | cons t l ih =>
    rw [List.map_cons, cg2_cons, List.length_cons]
    unfold loT
    simp only
    by_cases hh : t.1 = e
    · rw [if_pos hh]
      unfold loT at ih
      omega
    · rw [if_neg hh]
      unfold loT at ih
      omega
def sD (a b : Int) : DataW Unit := .agg [.lit (.int .i64 a), .lit (.int .i64 b)]
/-- a sum as a value -/
def mkS (x : Int × Int) : Value := .agg #[.int .i64 x.1, .int .i64 x.2]
/-- a sum as an element of a map -/
def sElem : Value → Option (DataW Unit × List MemPlace)
  | .agg cs => match cs.toList with
    | [.int .i64 a, .int .i64 b] => some (sD a b, [])
    | _ => none
  | _ => none
theorem sElem_mk (a b : Int) : sElem (.agg #[.int .i64 a, .int .i64 b]) = some (sD a b, []) := rfl
theorem sElem_inv {v : Value} {y : DataW Unit × List MemPlace} (h : sElem v = some y) : ∃ a b, v = .agg #[.int .i64 a, .int .i64 b] ∧ y = (sD a b, []) := by
  unfold sElem at h
  split at h
  · next cs =>
    split at h
    · next a b hc =>
      exact ⟨a, b, by rw [show cs = #[.int .i64 a, .int .i64 b] from Array.ext' (by simpa using hc)], (Option.some.inj h).symm⟩
    · cases h
  · cases h
theorem sD_inj {a b c d : Int} (h : sD a b = sD c d) : a = c ∧ b = d := by
  unfold sD at h
  simp only [DataW.agg.injEq, List.cons.injEq, DataW.lit.injEq, Lit.int.injEq, and_true, true_and] at h
  exact h
/-- all keys fit into 64 bits -/
def Kr (l : List T2) : Prop := ∀ t ∈ l, rkB t.1
/-- what the map holds -/
structure MDB (done : List T2) (D : DataW Unit) : Prop where
  tidy : Tidy D
  val : ∀ e, rkB e → D.atKey (keyB e) (sD 0 0) = sD (hiS done e) (loS done e)
  has : ∀ e, rkB e → (Maps.has D (keyB e) = true ↔ ∃ t ∈ done, t.1 = e)
theorem MDB.start : MDB [] (.map []) := ⟨tidy_empty, fun e _ => rfl, fun e _ => by simp [Maps.has]⟩
theorem MDB.put {done : List T2} {D : DataW Unit} (h : MDB done D) {e : K2} (he : rkB e) (c : Int) : MDB (done ++ [(e, c)]) (D.put (keyB e) (sD (hiS done e + c / 33554432) (loS done e + c % 33554432))) := by
  have hkl : WideAt.IsKeyLit (keyB e) := trivial
  refine ⟨h.tidy.put hkl _, fun x hx0 => ?_, fun x hx0 => ?_⟩
  · rw [hiS_snoc, loS_snoc]
    by_cases hx : x = e
    · subst hx
      rw [atKey_put_same h.tidy.isMap hkl, if_pos rfl, if_pos rfl]
    · rw [atKey_put_other (keyB_ne hx0 he hx), h.val x hx0, if_neg (fun q => hx q.symm), if_neg (fun q => hx q.symm), Int.add_zero, Int.add_zero]
  · by_cases hx : x = e
    · subst hx
      rw [has_put_same h.tidy.isMap hkl]
      exact ⟨fun _ => ⟨(x, c), by simp, rfl⟩, fun _ => rfl⟩
    · rw [has_put_other (keyB_ne hx0 he hx), h.has x hx0]
      constructor
      · rintro ⟨t, ht, he⟩; exact ⟨t, List.mem_append_left _ ht, he⟩
      · rintro ⟨t, ht, he⟩
        rcases List.mem_append.1 ht with ht | ht
        · exact ⟨t, ht, he⟩
        · rw [List.mem_singleton.1 ht] at he; exact absurd he.symm hx
/-- the state of the map in block g -/
def MapB (g : Nat) (done : List T2) (W : World) : Prop := ∃ D : DataW Unit, W.ownsMap Tryz.prog 70 sElem g done.length D ∧ MDB done D
theorem MapB.lt {g : Nat} {done : List T2} {W : World} (h : MapB g done W) : g < W.heap.size := by obtain ⟨D, h1, _⟩ := h; exact h1.lt
theorem MapB.keepB {g : Nat} {done : List T2} {W W' : World} (h : MapB g done W) (hk : W'.heap[g]? = W.heap[g]?) : MapB g done W' := by
  obtain ⟨D, ⟨es, clock, hh, F, hs, hD⟩, h2⟩ := h
  exact ⟨D, ⟨es, clock, hk.trans hh, F, hs, hD⟩, h2⟩
theorem MapB.below {g : Nat} {done : List T2} {W W' : World} (h : MapB g done W) (hb : Below W.heap.size W W') : MapB g done W' := h.keepB (hb.block g h.lt)
theorem MapB.ne {g k : Nat} {done : List T2} {W : World} {t : TypeId} {cs : List Value} (h : MapB g done W) (ha : Arr W k t cs) : k ≠ g := by
  intro e
  subst e
  obtain ⟨D, ⟨es, clock, hh, _⟩, _⟩ := h
  unfold Arr at ha
  rw [ha] at hh
  cases hh
theorem MapB.start (W : World) : MapB W.heap.size [] (W.alloc (.map #[] 0)) := ⟨_, World.ownsMap_made W Tryz.prog 70 sElem, MDB.start⟩
theorem zeroSum (w : World) : (zeroValue 72).run Tryz.prog w = .ok (.agg #[.int .i64 0, .int .i64 0]) w := by kernel_rfl
theorem MapB.look {g : Nat} {done : List T2} {W : World} (h : MapB g done W) {e : K2} (he : rkB e) : (Instr.lookup 69 (.map (some g)) (.agg #[.int .i64 e.1, .int .i64 e.2]) false).run Tryz.prog W = .ok (.agg #[.int .i64 (hiS done e), .int .i64 (loS done e)]) W := by
  obtain ⟨D, h1, h2⟩ := h
  obtain ⟨v, ps, hrun, hv⟩ := h1.lookup keyed_pair Tryz.underlying69 (zeroSum W) (sElem_mk 0 0) (key_pair he)
  obtain ⟨a, b, rfl, hy⟩ := sElem_inv hv
  have hy2 := congrArg Prod.fst hy
  rw [show (D.atKey (keyB e) (sD 0 0), ps).1 = D.atKey (keyB e) (sD 0 0) from rfl, h2.val e he] at hy2
  obtain ⟨q1, q2⟩ := sD_inj hy2
  rw [← q1, ← q2] at hrun
  exact hrun
theorem MapB.store {g : Nat} {done : List T2} {W : World} (h : MapB g done W) {e : K2} {c : Int} (he : rkB e) (hl : done.length ≤ 1000000000000000) : ∃ W', (Instr.mapUpdate 69 (.map (some g)) (.agg #[.int .i64 e.1, .int .i64 e.2]) (.agg #[.int .i64 (hiS done e + c / 33554432), .int .i64 (loS done e + c % 33554432)])).run Tryz.prog W = .ok () W' ∧ MapB g (done ++ [(e, c)]) W' ∧ ∀ base, base ≤ g → base ≤ W.heap.size → Oth base [g] none W W' := by
  obtain ⟨D, h1, h2⟩ := h
  obtain ⟨W', hrun, hown, hgr⟩ := h1.update keyed_pair Tryz.underlying69 (by unfold maxLen; omega) (key_pair he) (sElem_mk (hiS done e + c / 33554432) (loS done e + c % 33554432))
  refine ⟨W', hrun, ⟨_, by rw [List.length_append]; exact hown, h2.put he c⟩, fun base hb hbs => ⟨(Below.refl base W).grown hgr hbs (fun j hj => by cases hj; exact hb), fun k hk h1 _ => hgr.block k hk (fun q => by injection q with q; exact h1 (by simp [q]))⟩⟩
end Go.Proofs.YtbfggncmjdhapaaGreatDoor
