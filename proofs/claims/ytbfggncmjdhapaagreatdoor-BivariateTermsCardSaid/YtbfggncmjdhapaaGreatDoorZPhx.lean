/- A region that draws its order: each operation is walked once; a relation T between worlds tells what the operations keep; guards are met or not; with or without a store at its end. -/
import Derived.Test.YtbfggncmjdhapaaGreatDoorZPhg
import Derived.Test.YtbfggncmjdhapaaGreatDoorZPhs
namespace Go.Proofs.YtbfggncmjdhapaaGreatDoor
open Go.RowKit
set_option linter.unusedVariables false

section
variable {P : Program} {ops : Array Oper} {Q : Exit → Act → World → Prop}
/-- the guard of an operation is not met (it is the other truth value, or it was not asked itself) -/
def gNo (ops : Array Oper) (o : Oper) (b : Act) : Prop := match o.guard with
  | none => False
  | some (j, want) => ∃ d : Nat, (ops[j]?.bind (·.dst)) = some d ∧ (b.tmps[d]?.getD undef = .bool (!want) ∨ b.tmps[d]?.getD undef = undef)
theorem gNo.wanted {o : Oper} {b : Act} (h : gNo ops o b) : Region.wanted o (yielded ops b.tmps) = false := by
  unfold gNo at h
  unfold Region.wanted
  cases hg : o.guard with
  | none => rw [hg] at h; exact absurd h id
  | some p =>
    obtain ⟨j, want⟩ := p
    rw [hg] at h
    obtain ⟨d, hd, hv⟩ := h
    show (yielded ops b.tmps j == some want) = false
    unfold yielded
    rw [hd, Option.bind_some]
    rcases hv with hv | hv
    · cases ht : b.tmps[d]? with
      | none => simp
      | some u =>
        rw [ht] at hv
        simp only [Option.getD_some] at hv
        rw [hv]
        cases want <;> simp
    · cases ht : b.tmps[d]? with
      | none => simp
      | some u =>
        rw [ht] at hv
        simp only [Option.getD_some] at hv
        rw [hv]
        simp [undef]
theorem wpOp_skip {i : Nat} {o : Oper} {a : Act} {w : World} {K : Act → World → Prop} (h : ops[i]? = some o) (hg : Region.wanted o (yielded ops a.tmps) = false) (hw : K (a.put o.dst undef) w) : wpOp P ops Q i K a w := by
  unfold wpOp
  simp only [h, hg]
  exact hw
/-- the region by facts, guards met or not -/
theorem wp_region_facts2X {id : Nat} {l : List Oper} {a : Act} {w : World} (hm : P.follows .mixedOrders = true) (hd : apartD (dstOf l.toArray) = true) (hb : backD l.toArray = true) (hn : inD a.tmps.size (dstOf l.toArray) = true)
    (I : (Nat → Bool) → (Nat → Value) → World → Prop)
    (h0 : I (fun _ => false) (fun j => slotV a ((dstOf l.toArray).getD (j - 0) none)) w.drew)
    (hstep : AllOps (fun i o => ∀ D x w (b : Act), I D x w → D i = false → (∀ j ∈ deps o, D j = true) → (∀ j, D j = true → ∀ k ∈ depsAt l.toArray j, D k = true) → (∀ t : Nat, b.tmps[t]?.getD undef = look (dstOf l.toArray) x a t) → (gOk l.toArray o b ∧ o.wp P b w (StepPost I D x i b o.dst) NoQ) ∨ (gNo l.toArray o b ∧ I (upd D i true) (upd x i undef) w)) 0 l)
    (hend : ∀ D x w, I D x w → (∀ i, i < l.length → D i = true) → Q .normal (putAll (dstOf l.toArray) 0 x a) w) : (Code.region id l.toArray true).wp P Q a w := by
  refine wp_region_facts2 hm hd hb I h0 (fun i o ho D x w hI hD hdep hcl => ?_) (fun D x w hI h => hend D x w hI (by simpa using h))
  have ho' : l[i]? = some o := by simpa using ho
  have := hstep.get _ _ i o ho' D x w (putAll (dstOf l.toArray) 0 x a)
  rw [Nat.zero_add] at this
  have h2 := this hI hD hdep hcl (fun t => by
    rw [← Array.getD_eq_getD_getElem?, putAll_look _ _ _ _ _ hd hn]
    unfold look
    simp only [Nat.zero_add])
  rcases h2 with ⟨h2, h3⟩ | ⟨h2, h3⟩
  · exact wpOp_met ho h2.wanted (wp_noQ h3)
  · exact wpOp_skip ho h2.wanted ⟨undef, rfl, h3⟩
end
section
variable {P : Program} {Q : Exit → Act → World → Prop}
/-- behind one operation -/
def PhxPost (T : World → World → Prop) (w : World) (Φ : Nat → Value → World → Prop) (i : Nat) (b : Act) (d : Option Tmp) (a' : Act) (w' : World) : Prop := ∃ v, a' = b.put d v ∧ T w w' ∧ Φ i v w'
def PhxI (T : World → World → Prop) (w0 : World) (n : Nat) (Φ : Nat → Value → World → Prop) (R : (Nat → Value) → World → Prop) (x0 : Nat → Value) (D : Nat → Bool) (x : Nat → Value) (w : World) : Prop := if D n = true then R x w else T w0 w ∧ (∀ i, D i = true → Φ i (x i) w) ∧ ∀ i, D i = false → x i = x0 i
/-- n: the store at the end (n = the number of operations: there is none) -/
theorem wp_region_phx {id : Nat} {l : List Oper} {a : Act} {w0 : World} (T : World → World → Prop) (Tr : ∀ {a b c}, T a b → T b c → T a c) (T0 : T w0 w0.drew) (n : Nat) (hm : P.follows .mixedOrders = true) (hd : apartD (dstOf l.toArray) = true) (hb : backD l.toArray = true) (hn : inD a.tmps.size (dstOf l.toArray) = true)
    (hlen : l.length = n + 1) (hneed : needB l.toArray n = true)
    (Φ : Nat → Value → World → Prop) (hΦ : ∀ i v w w', Φ i v w → T w w' → Φ i v w') (R : (Nat → Value) → World → Prop)
    (hstep : AllOps (fun i o => ∀ (x : Nat → Value) w (b : Act), T w0 w → (∀ j ∈ deps o, Φ j (x j) w) → (∀ j, i ∈ depsAt l.toArray j → x j = slotV a ((dstOf l.toArray).getD (j - 0) none)) → (∀ t : Nat, b.tmps[t]?.getD undef = look (dstOf l.toArray) x a t) →
      (i < n → (gOk l.toArray o b ∧ o.wp P b w (PhxPost T w Φ i b o.dst) NoQ) ∨ (gNo l.toArray o b ∧ Φ i undef w)) ∧ (i = n → (∀ j, j < n → Φ j (x j) w) → gOk l.toArray o b ∧ o.wp P b w (fun a' w' => ∃ v, a' = b.put o.dst v ∧ R (upd x n v) w') NoQ)) 0 l)
    (hend : ∀ (x : Nat → Value) w, R x w → Q .normal (putAll (dstOf l.toArray) 0 x a) w) : (Code.region id l.toArray true).wp P Q a w0 := by
  refine wp_region_facts2X hm hd hb hn (PhxI T w0 n Φ R (fun j => slotV a ((dstOf l.toArray).getD (j - 0) none))) ?_ ?_ ?_
  · unfold PhxI
    rw [if_neg (by simp)]
    exact ⟨T0, fun i h => Bool.noConfusion h, fun _ _ => rfl⟩
  · have key : ∀ k o, l[k]? = some o → ∀ D x W (b : Act), PhxI T w0 n Φ R (fun j => slotV a ((dstOf l.toArray).getD (j - 0) none)) D x W → D k = false → (∀ j ∈ deps o, D j = true) → (∀ j, D j = true → ∀ q ∈ depsAt l.toArray j, D q = true) → (∀ t : Nat, b.tmps[t]?.getD undef = look (dstOf l.toArray) x a t) → (gOk l.toArray o b ∧ o.wp P b W (StepPost (PhxI T w0 n Φ R (fun j => slotV a ((dstOf l.toArray).getD (j - 0) none))) D x k b o.dst) NoQ) ∨ (gNo l.toArray o b ∧ PhxI T w0 n Φ R (fun j => slotV a ((dstOf l.toArray).getD (j - 0) none)) (upd D k true) (upd x k undef) W) := by
      intro k o ho D x W b hI hD hdep hcl hbt
      have hk : k ≤ n := by have := (List.getElem?_eq_some_iff.1 ho).1; omega
      have hDn : D n = false := by
        cases h : D n with
        | false => rfl
        | true => have := need_all hneed hcl h _ k hk (Nat.le_refl _); rw [this] at hD; cases hD
      unfold PhxI at hI
      rw [hDn, if_neg (by simp)] at hI
      have hs := hstep.get _ _ k o ho x W b hI.1 (fun j hj => hI.2.1 j (hdep j hj)) (fun j hj => hI.2.2 j (by
        cases h : D j with
        | false => rfl
        | true =>
          rw [Nat.zero_add] at hj
          have := hcl j h k hj
          rw [hD] at this; cases this)) hbt
      rw [Nat.zero_add] at hs
      have hnext : ∀ v w', T W w' → Φ k v w' → k ≠ n → PhxI T w0 n Φ R (fun j => slotV a ((dstOf l.toArray).getD (j - 0) none)) (upd D k true) (upd x k v) w' := by
        intro v w' hb' hv hkn
        unfold PhxI
        rw [upd_ne _ _ (show n ≠ k from fun e => hkn e.symm), hDn, if_neg (by simp)]
        refine ⟨Tr hI.1 hb', fun i hi => ?_, fun i hi => ?_⟩
        · by_cases e : i = k
          · subst e; rw [upd_same]; exact hv
          · rw [upd_ne _ _ e] at hi ⊢
            exact hΦ i (x i) W w' (hI.2.1 i hi) hb'
        · by_cases e : i = k
          · subst e; rw [upd_same] at hi; cases hi
          · rw [upd_ne _ _ e] at hi ⊢
            exact hI.2.2 i hi
      by_cases hkn : k = n
      · subst hkn
        have hDall : ∀ j, j < k → D j = true := by
          intro j hj
          have hcl' : ∀ j, upd D k true j = true → ∀ q ∈ depsAt l.toArray j, upd D k true q = true := by
            intro j hj q hq
            by_cases eq : q = k
            · subst eq; rw [upd_same]
            rw [upd_ne _ _ eq]
            by_cases ej : j = k
            · subst ej
              have : depsAt l.toArray j = deps o := by
                have h1 : l.toArray[j]? = some o := by simpa using ho
                simp [depsAt, h1]
              rw [this] at hq
              exact hdep q hq
            · rw [upd_ne _ _ ej] at hj
              exact hcl j hj q hq
          have := need_all hneed hcl' (upd_same _ _ _) _ j (by omega) (Nat.le_refl _)
          rwa [upd_ne _ _ (show j ≠ k by omega)] at this
        obtain ⟨g1, g2⟩ := hs.2 rfl (fun j hj => hI.2.1 j (hDall j hj))
        refine .inl ⟨g1, Oper.wp_mono ?_ g2⟩
        rintro a' w' ⟨v, rfl, hR⟩
        refine ⟨v, rfl, ?_⟩
        unfold PhxI
        rw [if_pos (upd_same _ _ _)]
        exact hR
      · rcases hs.1 (by omega) with ⟨g1, g2⟩ | ⟨g1, g2⟩
        · refine .inl ⟨g1, Oper.wp_mono ?_ g2⟩
          rintro a' w' ⟨v, rfl, hb', hv⟩
          exact ⟨v, rfl, hnext v w' hb' hv hkn⟩
        · refine .inr ⟨g1, ?_⟩
          unfold PhxI
          rw [upd_ne _ _ (show n ≠ k from fun e => hkn e.symm), hDn, if_neg (by simp)]
          refine ⟨hI.1, fun i hi => ?_, fun i hi => ?_⟩
          · by_cases e : i = k
            · subst e; rw [upd_same]; exact g2
            · rw [upd_ne _ _ e] at hi ⊢
              exact hI.2.1 i hi
          · by_cases e : i = k
            · subst e; rw [upd_same] at hi; cases hi
            · rw [upd_ne _ _ e] at hi ⊢
              exact hI.2.2 i hi
    have aux : ∀ (r : List Oper) (s : Nat), (∀ k, r[k]? = l[s + k]?) → AllOps (fun i o => ∀ D x W (b : Act), PhxI T w0 n Φ R (fun j => slotV a ((dstOf l.toArray).getD (j - 0) none)) D x W → D i = false → (∀ j ∈ deps o, D j = true) → (∀ j, D j = true → ∀ q ∈ depsAt l.toArray j, D q = true) → (∀ t : Nat, b.tmps[t]?.getD undef = look (dstOf l.toArray) x a t) → (gOk l.toArray o b ∧ o.wp P b W (StepPost (PhxI T w0 n Φ R (fun j => slotV a ((dstOf l.toArray).getD (j - 0) none))) D x i b o.dst) NoQ) ∨ (gNo l.toArray o b ∧ PhxI T w0 n Φ R (fun j => slotV a ((dstOf l.toArray).getD (j - 0) none)) (upd D i true) (upd x i undef) W)) s r := by
      intro r
      induction r with
      | nil => intro s _; trivial
      | cons o r ih =>
        intro s hr
        refine ⟨key s o (by have := hr 0; simpa using this.symm), ih (s + 1) (fun k => ?_)⟩
        have := hr (k + 1)
        rw [List.getElem?_cons_succ] at this
        rw [this]; congr 1; omega
    exact aux l 0 (fun k => by rw [Nat.zero_add])
  · intro D x W hI hall
    have hDn := hall n (by omega)
    unfold PhxI at hI
    rw [if_pos hDn] at hI
    exact hend x W hI
/-- the same without a store at the end -/
theorem wp_region_phy {id : Nat} {l : List Oper} {a : Act} {w0 : World} (T : World → World → Prop) (Tr : ∀ {a b c}, T a b → T b c → T a c) (T0 : T w0 w0.drew) (hm : P.follows .mixedOrders = true) (hd : apartD (dstOf l.toArray) = true) (hb : backD l.toArray = true) (hn : inD a.tmps.size (dstOf l.toArray) = true)
    (Φ : Nat → Value → World → Prop) (hΦ : ∀ i v w w', Φ i v w → T w w' → Φ i v w')
    (hstep : AllOps (fun i o => ∀ (x : Nat → Value) w (b : Act), T w0 w → (∀ j ∈ deps o, Φ j (x j) w) → (∀ j, i ∈ depsAt l.toArray j → x j = slotV a ((dstOf l.toArray).getD (j - 0) none)) → (∀ t : Nat, b.tmps[t]?.getD undef = look (dstOf l.toArray) x a t) →
      (gOk l.toArray o b ∧ o.wp P b w (PhxPost T w Φ i b o.dst) NoQ) ∨ (gNo l.toArray o b ∧ Φ i undef w)) 0 l)
    (hend : ∀ (x : Nat → Value) w, T w0 w → (∀ i, i < l.length → Φ i (x i) w) → Q .normal (putAll (dstOf l.toArray) 0 x a) w) : (Code.region id l.toArray true).wp P Q a w0 := by
  refine wp_region_facts2X hm hd hb hn (fun D x w => T w0 w ∧ (∀ i, D i = true → Φ i (x i) w) ∧ ∀ i, D i = false → x i = (fun j => slotV a ((dstOf l.toArray).getD (j - 0) none)) i) ⟨T0, fun i h => Bool.noConfusion h, fun _ _ => rfl⟩ ?_ ?_
  · have key : ∀ k o, l[k]? = some o → ∀ D x W (b : Act), (T w0 W ∧ (∀ i, D i = true → Φ i (x i) W) ∧ ∀ i, D i = false → x i = (fun j => slotV a ((dstOf l.toArray).getD (j - 0) none)) i) → D k = false → (∀ j ∈ deps o, D j = true) → (∀ j, D j = true → ∀ q ∈ depsAt l.toArray j, D q = true) → (∀ t : Nat, b.tmps[t]?.getD undef = look (dstOf l.toArray) x a t) → (gOk l.toArray o b ∧ o.wp P b W (StepPost (fun D x w => T w0 w ∧ (∀ i, D i = true → Φ i (x i) w) ∧ ∀ i, D i = false → x i = (fun j => slotV a ((dstOf l.toArray).getD (j - 0) none)) i) D x k b o.dst) NoQ) ∨ (gNo l.toArray o b ∧ (T w0 W ∧ (∀ i, upd D k true i = true → Φ i (upd x k undef i) W) ∧ ∀ i, upd D k true i = false → upd x k undef i = (fun j => slotV a ((dstOf l.toArray).getD (j - 0) none)) i)) := by
      intro k o ho D x W b hI hD hdep hcl hbt
      have hs := hstep.get _ _ k o ho x W b hI.1 (fun j hj => hI.2.1 j (hdep j hj)) (fun j hj => hI.2.2 j (by
        cases h : D j with
        | false => rfl
        | true =>
          rw [Nat.zero_add] at hj
          have := hcl j h k hj
          rw [hD] at this; cases this)) hbt
      rw [Nat.zero_add] at hs
      rcases hs with ⟨g1, g2⟩ | ⟨g1, g2⟩
      · refine .inl ⟨g1, Oper.wp_mono ?_ g2⟩
        rintro a' w' ⟨v, rfl, hb', hv⟩
        refine ⟨v, rfl, Tr hI.1 hb', fun i hi => ?_, fun i hi => ?_⟩
        · by_cases e : i = k
          · subst e; rw [upd_same]; exact hv
          · rw [upd_ne _ _ e] at hi ⊢
            exact hΦ i (x i) W w' (hI.2.1 i hi) hb'
        · by_cases e : i = k
          · subst e; rw [upd_same] at hi; cases hi
          · rw [upd_ne _ _ e] at hi ⊢
            exact hI.2.2 i hi
      · refine .inr ⟨g1, hI.1, fun i hi => ?_, fun i hi => ?_⟩
        · by_cases e : i = k
          · subst e; rw [upd_same]; exact g2
          · rw [upd_ne _ _ e] at hi ⊢
            exact hI.2.1 i hi
        · by_cases e : i = k
          · subst e; rw [upd_same] at hi; cases hi
          · rw [upd_ne _ _ e] at hi ⊢
            exact hI.2.2 i hi
    have aux : ∀ (r : List Oper) (s : Nat), (∀ k, r[k]? = l[s + k]?) → AllOps (fun k o => ∀ D x W (b : Act), (T w0 W ∧ (∀ i, D i = true → Φ i (x i) W) ∧ ∀ i, D i = false → x i = (fun j => slotV a ((dstOf l.toArray).getD (j - 0) none)) i) → D k = false → (∀ j ∈ deps o, D j = true) → (∀ j, D j = true → ∀ q ∈ depsAt l.toArray j, D q = true) → (∀ t : Nat, b.tmps[t]?.getD undef = look (dstOf l.toArray) x a t) → (gOk l.toArray o b ∧ o.wp P b W (StepPost (fun D x w => T w0 w ∧ (∀ i, D i = true → Φ i (x i) w) ∧ ∀ i, D i = false → x i = (fun j => slotV a ((dstOf l.toArray).getD (j - 0) none)) i) D x k b o.dst) NoQ) ∨ (gNo l.toArray o b ∧ (T w0 W ∧ (∀ i, upd D k true i = true → Φ i (upd x k undef i) W) ∧ ∀ i, upd D k true i = false → upd x k undef i = (fun j => slotV a ((dstOf l.toArray).getD (j - 0) none)) i))) s r := by
      intro r
      induction r with
      | nil => intro s _; trivial
      | cons o r ih =>
        intro s hr
        refine ⟨key s o (by have := hr 0; simpa using this.symm), ih (s + 1) (fun k => ?_)⟩
        have := hr (k + 1)
        rw [List.getElem?_cons_succ] at this
        rw [this]; congr 1; omega
    exact aux l 0 (fun k => by rw [Nat.zero_add])
  · intro D x W hI hall
    exact hend x W hI.1 (fun i hi => hI.2.1 i (hall i hi))
variable {w : World} {T : World → World → Prop} {Φ : Nat → Value → World → Prop} {i : Nat} {b : Act} {o : Oper}
theorem phx_run (v : Value) (h : (execOp b.eval o).run P w = .ok (.value v) w) (hT : T w w) (hv : Φ i v w) : o.wp P b w (PhxPost T w Φ i b o.dst) NoQ := by
  unfold Oper.wp; rw [h]; exact ⟨v, rfl, hT, hv⟩
theorem phx_make (v : Value) (w' : World) (h : (execOp b.eval o).run P w = .ok (.value v) w') (hb : T w w') (hv : Φ i v w') : o.wp P b w (PhxPost T w Φ i b o.dst) NoQ := by
  unfold Oper.wp; rw [h]; exact ⟨v, rfl, hb, hv⟩
theorem phx_call {f : FuncId} {args : Array Value} (h : (execOp b.eval o).run P w = .ok (.enter f args) w) (hc : Calls P f args w fun e w' => ∃ v, e = .returned v ∧ T w w' ∧ Φ i v w') : o.wp P b w (PhxPost T w Φ i b o.dst) NoQ := by
  unfold Oper.wp; rw [h]
  simp only [Oper.upon]
  refine hc.mono ?_
  rintro e w' ⟨v, rfl, hb, hv⟩
  exact ⟨v, rfl, hb, hv⟩
theorem phx_st {R : World → Prop} (W : World) (h : (execOp b.eval o).run P w = .ok .skip W) (ho : o.dst = none) (hR : R W) : o.wp P b w (fun a' w' => ∃ v, a' = b.put o.dst v ∧ R w') NoQ := by
  unfold Oper.wp; rw [h]; exact ⟨undef, by rw [ho], hR⟩
end
end Go.Proofs.YtbfggncmjdhapaaGreatDoor
