/- A region that draws its order, whose operations leave what was there as it is (they may make memory and call), but for a store at its end: each operation is walked once. -/
import Derived.Test.YtjeklcgfffibpaaGreatDoorZTab
namespace Go.Proofs.YtjeklcgfffibpaaGreatDoor
open Go.RowKit
set_option linter.unusedVariables false

section
variable {P : Program} {Q : Exit → Act → World → Prop}
/-- behind one operation: what it makes (fr) lies in new memory -/
def PhfPost (w : World) (Φ : Nat → Value → World → Prop) (fr : Nat → Bool) (i : Nat) (b : Act) (d : Option Tmp) (a' : Act) (w' : World) : Prop := ∃ v, a' = b.put d v ∧ Below w.heap.size w w' ∧ Φ i v w' ∧ (fr i = true → ∀ k, v.ownBlock = some k → w.heap.size ≤ k)
/-- what is made by two operations lies apart -/
def ApF (fr : Nat → Bool) (D : Nat → Bool) (x : Nat → Value) : Prop := ∀ i j, i ≠ j → D i = true → D j = true → fr i = true → fr j = true → ∀ k, (x i).ownBlock = some k → (x j).ownBlock ≠ some k
def PhfI (w0 : World) (Φ : Nat → Value → World → Prop) (fr : Nat → Bool) (x0 : Nat → Value) (D : Nat → Bool) (x : Nat → Value) (w : World) : Prop := PhiI w0 Φ x0 D x w ∧ ApF fr D x
def PhsI (w0 : World) (n : Nat) (Φ : Nat → Value → World → Prop) (fr : Nat → Bool) (R : (Nat → Value) → World → Prop) (x0 : Nat → Value) (D : Nat → Bool) (x : Nat → Value) (w : World) : Prop := if D n = true then R x w else PhfI w0 Φ fr x0 D x w
theorem wp_region_phis {id : Nat} {l : List Oper} {a : Act} {w0 : World} (n : Nat) (hm : P.follows .mixedOrders = true) (hd : apartD (dstOf l.toArray) = true) (hb : backD l.toArray = true) (hg : l.all (fun o => o.guard.isNone) = true) (hn : inD a.tmps.size (dstOf l.toArray) = true)
    (hlen : l.length = n + 1) (hneed : needB l.toArray n = true)
    (Φ : Nat → Value → World → Prop) (hΦ : ∀ i v w w', Φ i v w → Below w.heap.size w w' → Φ i v w') (fr : Nat → Bool) (hfr : ∀ i v w, fr i = true → Φ i v w → ∀ k, v.ownBlock = some k → k < w.heap.size) (R : (Nat → Value) → World → Prop)
    (hstep : AllOps (fun i o => ∀ (x : Nat → Value) w (b : Act), Below w0.heap.size w0 w → (∀ j ∈ deps o, Φ j (x j) w) → (∀ j1 ∈ deps o, ∀ j2 ∈ deps o, j1 ≠ j2 → fr j1 = true → fr j2 = true → ∀ k, (x j1).ownBlock = some k → (x j2).ownBlock ≠ some k) → (∀ j, i ∈ depsAt l.toArray j → x j = slotV a ((dstOf l.toArray).getD (j - 0) none)) → (∀ t : Nat, b.tmps[t]?.getD undef = look (dstOf l.toArray) x a t) →
      (i < n → o.wp P b w (PhfPost w Φ fr i b o.dst) NoQ) ∧ (i = n → (∀ j, j < n → Φ j (x j) w) → o.wp P b w (fun a' w' => ∃ v, a' = b.put o.dst v ∧ R (upd x n v) w') NoQ)) 0 l)
    (hend : ∀ (x : Nat → Value) w, R x w → Q .normal (putAll (dstOf l.toArray) 0 x a) w) : (Code.region id l.toArray true).wp P Q a w0 := by
  refine wp_region_facts2U hm hd hb hg hn (PhsI w0 n Φ fr R (fun j => slotV a ((dstOf l.toArray).getD (j - 0) none))) ?_ ?_ ?_
  · unfold PhsI
    rw [if_neg (by simp)]
    exact ⟨⟨(Below.refl _ _).drew, fun i h => Bool.noConfusion h, fun _ _ => rfl⟩, fun i j _ h => Bool.noConfusion h⟩
  · have key : ∀ k o, l[k]? = some o → ∀ D x W (b : Act), PhsI w0 n Φ fr R (fun j => slotV a ((dstOf l.toArray).getD (j - 0) none)) D x W → D k = false → (∀ j ∈ deps o, D j = true) → (∀ j, D j = true → ∀ q ∈ depsAt l.toArray j, D q = true) → (∀ t : Nat, b.tmps[t]?.getD undef = look (dstOf l.toArray) x a t) → o.wp P b W (StepPost (PhsI w0 n Φ fr R (fun j => slotV a ((dstOf l.toArray).getD (j - 0) none))) D x k b o.dst) NoQ := by
      intro k o ho D x W b hI hD hdep hcl hbt
      have hk : k ≤ n := by have := (List.getElem?_eq_some_iff.1 ho).1; omega
      have hDn : D n = false := by
        cases h : D n with
        | false => rfl
        | true => have := need_all hneed hcl h _ k hk (Nat.le_refl _); rw [this] at hD; cases hD
      unfold PhsI at hI
      rw [hDn, if_neg (by simp)] at hI
      obtain ⟨hI, hAp⟩ := hI
      have hs := hstep.get _ _ k o ho x W b hI.1 (fun j hj => hI.2.1 j (hdep j hj)) (fun j1 h1 j2 h2 hne f1 f2 => hAp j1 j2 hne (hdep j1 h1) (hdep j2 h2) f1 f2) (fun j hj => hI.2.2 j (by
        cases h : D j with
        | false => rfl
        | true =>
          rw [Nat.zero_add] at hj
          have := hcl j h k hj
          rw [hD] at this; cases this)) hbt
      rw [Nat.zero_add] at hs
      by_cases hkn : k = n
      · subst hkn
        have hDall : ∀ j, j < k → D j = true := by
          intro j hj
          have hcl' : ∀ j, upd D k true j = true → ∀ q ∈ depsAt l.toArray j, upd D k true q = true := by
            intro j hj q hq
            by_cases eq : q = k
            · subst eq; rw [upd_same]
            rw [upd_ne _ _ eq]
            by_cases ej : j = k
            · subst ej
              have : depsAt l.toArray j = deps o := by
                have h1 : l.toArray[j]? = some o := by simpa using ho
                simp [depsAt, h1]
              rw [this] at hq
              exact hdep q hq
            · rw [upd_ne _ _ ej] at hj
              exact hcl j hj q hq
          have := need_all hneed hcl' (upd_same _ _ _) _ j (by omega) (Nat.le_refl _)
          rwa [upd_ne _ _ (show j ≠ k by omega)] at this
        refine Oper.wp_mono ?_ (hs.2 rfl (fun j hj => hI.2.1 j (hDall j hj)))
        rintro a' w' ⟨v, rfl, hR⟩
        refine ⟨v, rfl, ?_⟩
        unfold PhsI
        rw [if_pos (upd_same _ _ _)]
        exact hR
      · refine Oper.wp_mono ?_ (hs.1 (by omega))
        rintro a' w' ⟨v, rfl, hb', hv, hfv⟩
        refine ⟨v, rfl, ?_⟩
        unfold PhsI
        rw [upd_ne _ _ (show n ≠ k from fun e => hkn e.symm), hDn, if_neg (by simp)]
        refine ⟨⟨hI.1.trans (hb'.mono hI.1.size), fun i hi => ?_, fun i hi => ?_⟩, fun i j hij hi hj fi fj => ?_⟩
        · by_cases e : i = k
          · subst e; rw [upd_same]; exact hv
          · rw [upd_ne _ _ e] at hi ⊢
            exact hΦ i (x i) W w' (hI.2.1 i hi) hb'
        · by_cases e : i = k
          · subst e; rw [upd_same] at hi; cases hi
          · rw [upd_ne _ _ e] at hi ⊢
            exact hI.2.2 i hi
        · intro q hq
          by_cases ei : i = k
          · subst ei
            have ej : j ≠ i := fun e => hij e.symm
            rw [upd_same] at hq
            rw [upd_ne _ _ ej] at hj ⊢
            intro h2
            have h3 := hfr j (x j) W fj (hI.2.1 j hj) q h2
            have h4 := hfv fi q hq
            omega
          · rw [upd_ne _ _ ei] at hi hq
            by_cases ej : j = k
            · subst ej
              rw [upd_same]
              intro h2
              have h3 := hfr i (x i) W fi (hI.2.1 i hi) q hq
              have h4 := hfv fj q h2
              omega
            · rw [upd_ne _ _ ej] at hj ⊢
              exact hAp i j hij hi hj fi fj q hq
    have aux : ∀ (r : List Oper) (s : Nat), (∀ k, r[k]? = l[s + k]?) → AllOps (fun i o => ∀ D x W (b : Act), PhsI w0 n Φ fr R (fun j => slotV a ((dstOf l.toArray).getD (j - 0) none)) D x W → D i = false → (∀ j ∈ deps o, D j = true) → (∀ j, D j = true → ∀ q ∈ depsAt l.toArray j, D q = true) → (∀ t : Nat, b.tmps[t]?.getD undef = look (dstOf l.toArray) x a t) → o.wp P b W (StepPost (PhsI w0 n Φ fr R (fun j => slotV a ((dstOf l.toArray).getD (j - 0) none))) D x i b o.dst) NoQ) s r := by
      intro r
      induction r with
      | nil => intro s _; trivial
      | cons o r ih =>
        intro s hr
        refine ⟨key s o (by have := hr 0; simpa using this.symm), ih (s + 1) (fun k => ?_)⟩
        have := hr (k + 1)
        rw [List.getElem?_cons_succ] at this
        rw [this]; congr 1; omega
    exact aux l 0 (fun k => by rw [Nat.zero_add])
  · intro D x W hI hall
    have hDn := hall n (by omega)
    unfold PhsI at hI
    rw [if_pos hDn] at hI
    exact hend x W hI
variable {w : World} {Φ : Nat → Value → World → Prop} {fr : Nat → Bool} {i : Nat} {b : Act} {o : Oper}
theorem phs_store {R : (Nat → Value) → World → Prop} {x : Nat → Value} {n : Nat} (W : World) (h : (execOp b.eval o).run P w = .ok .skip W) (ho : o.dst = none) (hR : ∀ v, R (upd x n v) W) : o.wp P b w (fun a' w' => ∃ v, a' = b.put o.dst v ∧ R (upd x n v) w') NoQ := by
  unfold Oper.wp; rw [h]
  refine ⟨undef, ?_, hR undef⟩
  rw [ho]
theorem phf_run (v : Value) (hf : fr i = false) (h : (execOp b.eval o).run P w = .ok (.value v) w) (hv : Φ i v w) : o.wp P b w (PhfPost w Φ fr i b o.dst) NoQ := by
  unfold Oper.wp; rw [h]; exact ⟨v, rfl, Below.refl _ _, hv, fun e => by rw [hf] at e; cases e⟩
theorem phf_make (v : Value) (w' : World) (h : (execOp b.eval o).run P w = .ok (.value v) w') (hb : Below w.heap.size w w') (hv : Φ i v w') (hf : fr i = true → ∀ k, v.ownBlock = some k → w.heap.size ≤ k) : o.wp P b w (PhfPost w Φ fr i b o.dst) NoQ := by
  unfold Oper.wp; rw [h]; exact ⟨v, rfl, hb, hv, hf⟩
theorem phf_call {f : FuncId} {args : Array Value} (h : (execOp b.eval o).run P w = .ok (.enter f args) w) (hc : Calls P f args w fun e w' => ∃ v, e = .returned v ∧ Below w.heap.size w w' ∧ Φ i v w' ∧ (fr i = true → ∀ k, v.ownBlock = some k → w.heap.size ≤ k)) : o.wp P b w (PhfPost w Φ fr i b o.dst) NoQ := by
  unfold Oper.wp; rw [h]
  simp only [Oper.upon]
  refine hc.mono ?_
  rintro e w' ⟨v, rfl, hb, hv⟩
  exact ⟨v, rfl, hb, hv⟩
end
end Go.Proofs.YtjeklcgfffibpaaGreatDoor
