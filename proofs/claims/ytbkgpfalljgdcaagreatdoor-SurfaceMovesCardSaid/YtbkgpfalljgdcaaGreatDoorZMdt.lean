/- A region that draws its order: each operation is walked once; a relation T between worlds tells what the operations keep; guards are met or not; with or without a store at its end. -/
/- polymatrix.field.det's closure. -/
/- polymatrix.field.det: plain functions. -/
import Derived.Test.YtbkgpfalljgdcaaGreatDoorZTab
import Derived.Test.YtbkgpfalljgdcaaGreatDoorZPfa
namespace Go.Proofs.YtbkgpfalljgdcaaGreatDoor
open Go.RowKit
set_option linter.unusedVariables false

section
variable {P : Program} {ops : Array Oper} {Q : Exit → Act → World → Prop}
/-- the guard of an operation is not met (it is the other truth value, or it was not asked itself) -/
def gNo (ops : Array Oper) (o : Oper) (b : Act) : Prop := match o.guard with
  | none => False
  | some (j, want) => ∃ d : Nat, (ops[j]?.bind (·.dst)) = some d ∧ (b.tmps[d]?.getD undef = .bool (!want) ∨ b.tmps[d]?.getD undef = undef)
theorem gNo.wanted {o : Oper} {b : Act} (h : gNo ops o b) : Region.wanted o (yielded ops b.tmps) = false := by
  unfold gNo at h
  unfold Region.wanted
  cases hg : o.guard with
  | none => rw [hg] at h; exact absurd h id
  | some p =>
    obtain ⟨j, want⟩ := p
    rw [hg] at h
    obtain ⟨d, hd, hv⟩ := h
    show (yielded ops b.tmps j == some want) = false
    unfold yielded
    rw [hd, Option.bind_some]
    rcases hv with hv | hv
    · cases ht : b.tmps[d]? with
      | none => simp
      | some u =>
        rw [ht] at hv
        simp only [Option.getD_some] at hv
        rw [hv]
        cases want <;> simp
    · cases ht : b.tmps[d]? with
      | none => simp
      | some u =>
        rw [ht] at hv
        simp only [Option.getD_some] at hv
        rw [hv]
        simp [undef]
theorem wpOp_skip {i : Nat} {o : Oper} {a : Act} {w : World} {K : Act → World → Prop} (h : ops[i]? = some o) (hg : Region.wanted o (yielded ops a.tmps) = false) (hw : K (a.put o.dst undef) w) : wpOp P ops Q i K a w := by
  unfold wpOp
  simp only [h, hg]
  exact hw
/-- the region by facts, guards met or not -/
theorem wp_region_facts2X {id : Nat} {l : List Oper} {a : Act} {w : World} (hm : P.follows .mixedOrders = true) (hd : apartD (dstOf l.toArray) = true) (hb : backD l.toArray = true) (hn : inD a.tmps.size (dstOf l.toArray) = true)
    (I : (Nat → Bool) → (Nat → Value) → World → Prop)
    (h0 : I (fun _ => false) (fun j => slotV a ((dstOf l.toArray).getD (j - 0) none)) w.drew)
    (hstep : AllOps (fun i o => ∀ D x w (b : Act), I D x w → D i = false → (∀ j ∈ deps o, D j = true) → (∀ j, D j = true → ∀ k ∈ depsAt l.toArray j, D k = true) → (∀ t : Nat, b.tmps[t]?.getD undef = look (dstOf l.toArray) x a t) → (gOk l.toArray o b ∧ o.wp P b w (StepPost I D x i b o.dst) NoQ) ∨ (gNo l.toArray o b ∧ I (upd D i true) (upd x i undef) w)) 0 l)
    (hend : ∀ D x w, I D x w → (∀ i, i < l.length → D i = true) → Q .normal (putAll (dstOf l.toArray) 0 x a) w) : (Code.region id l.toArray true).wp P Q a w := by
  refine wp_region_facts2 hm hd hb I h0 (fun i o ho D x w hI hD hdep hcl => ?_) (fun D x w hI h => hend D x w hI (by simpa using h))
  have ho' : l[i]? = some o := by simpa using ho
  have := hstep.get _ _ i o ho' D x w (putAll (dstOf l.toArray) 0 x a)
  rw [Nat.zero_add] at this
  have h2 := this hI hD hdep hcl (fun t => by
    rw [← Array.getD_eq_getD_getElem?, putAll_look _ _ _ _ _ hd hn]
    unfold look
    simp only [Nat.zero_add])
  rcases h2 with ⟨h2, h3⟩ | ⟨h2, h3⟩
  · exact wpOp_met ho h2.wanted (wp_noQ h3)
  · exact wpOp_skip ho h2.wanted ⟨undef, rfl, h3⟩
end
section
variable {P : Program} {Q : Exit → Act → World → Prop}
/-- behind one operation -/
def PhxPost (T : World → World → Prop) (w : World) (Φ : Nat → Value → World → Prop) (i : Nat) (b : Act) (d : Option Tmp) (a' : Act) (w' : World) : Prop := ∃ v, a' = b.put d v ∧ T w w' ∧ Φ i v w'
def PhxI (T : World → World → Prop) (w0 : World) (n : Nat) (Φ : Nat → Value → World → Prop) (R : (Nat → Value) → World → Prop) (x0 : Nat → Value) (D : Nat → Bool) (x : Nat → Value) (w : World) : Prop := if D n = true then R x w else T w0 w ∧ (∀ i, D i = true → Φ i (x i) w) ∧ ∀ i, D i = false → x i = x0 i
/-- n: the store at the end (n = the number of operations: there is none) -/
theorem wp_region_phx {id : Nat} {l : List Oper} {a : Act} {w0 : World} (T : World → World → Prop) (Tr : ∀ {a b c}, T a b → T b c → T a c) (T0 : T w0 w0.drew) (n : Nat) (hm : P.follows .mixedOrders = true) (hd : apartD (dstOf l.toArray) = true) (hb : backD l.toArray = true) (hn : inD a.tmps.size (dstOf l.toArray) = true)
    (hlen : l.length = n + 1) (hneed : needB l.toArray n = true)
    (Φ : Nat → Value → World → Prop) (hΦ : ∀ i v w w', Φ i v w → T w w' → Φ i v w') (R : (Nat → Value) → World → Prop)
    (hstep : AllOps (fun i o => ∀ (x : Nat → Value) w (b : Act), T w0 w → (∀ j ∈ deps o, Φ j (x j) w) → (∀ j, i ∈ depsAt l.toArray j → x j = slotV a ((dstOf l.toArray).getD (j - 0) none)) → (∀ t : Nat, b.tmps[t]?.getD undef = look (dstOf l.toArray) x a t) →
      (i < n → (gOk l.toArray o b ∧ o.wp P b w (PhxPost T w Φ i b o.dst) NoQ) ∨ (gNo l.toArray o b ∧ Φ i undef w)) ∧ (i = n → (∀ j, j < n → Φ j (x j) w) → gOk l.toArray o b ∧ o.wp P b w (fun a' w' => ∃ v, a' = b.put o.dst v ∧ R (upd x n v) w') NoQ)) 0 l)
    (hend : ∀ (x : Nat → Value) w, R x w → Q .normal (putAll (dstOf l.toArray) 0 x a) w) : (Code.region id l.toArray true).wp P Q a w0 := by
  refine wp_region_facts2X hm hd hb hn (PhxI T w0 n Φ R (fun j => slotV a ((dstOf l.toArray).getD (j - 0) none))) ?_ ?_ ?_
  · unfold PhxI
    rw [if_neg (by simp)]
    exact ⟨T0, fun i h => Bool.noConfusion h, fun _ _ => rfl⟩
  · have key : ∀ k o, l[k]? = some o → ∀ D x W (b : Act), PhxI T w0 n Φ R (fun j => slotV a ((dstOf l.toArray).getD (j - 0) none)) D x W → D k = false → (∀ j ∈ deps o, D j = true) → (∀ j, D j = true → ∀ q ∈ depsAt l.toArray j, D q = true) → (∀ t : Nat, b.tmps[t]?.getD undef = look (dstOf l.toArray) x a t) → (gOk l.toArray o b ∧ o.wp P b W (StepPost (PhxI T w0 n Φ R (fun j => slotV a ((dstOf l.toArray).getD (j - 0) none))) D x k b o.dst) NoQ) ∨ (gNo l.toArray o b ∧ PhxI T w0 n Φ R (fun j => slotV a ((dstOf l.toArray).getD (j - 0) none)) (upd D k true) (upd x k undef) W) := by
      intro k o ho D x W b hI hD hdep hcl hbt
      have hk : k ≤ n := by have := (List.getElem?_eq_some_iff.1 ho).1; omega
      have hDn : D n = false := by
        cases h : D n with
        | false => rfl
        | true => have := need_all hneed hcl h _ k hk (Nat.le_refl _); rw [this] at hD; cases hD
      unfold PhxI at hI
      rw [hDn, if_neg (by simp)] at hI
      have hs := hstep.get _ _ k o ho x W b hI.1 (fun j hj => hI.2.1 j (hdep j hj)) (fun j hj => hI.2.2 j (by
        cases h : D j with
        | false => rfl
        | true =>
          rw [Nat.zero_add] at hj
          have := hcl j h k hj
          rw [hD] at this; cases this)) hbt
      rw [Nat.zero_add] at hs
      have hnext : ∀ v w', T W w' → Φ k v w' → k ≠ n → PhxI T w0 n Φ R (fun j => slotV a ((dstOf l.toArray).getD (j - 0) none)) (upd D k true) (upd x k v) w' := by
        intro v w' hb' hv hkn
        unfold PhxI
        rw [upd_ne _ _ (show n ≠ k from fun e => hkn e.symm), hDn, if_neg (by simp)]
        refine ⟨Tr hI.1 hb', fun i hi => ?_, fun i hi => ?_⟩
        · by_cases e : i = k
          · subst e; rw [upd_same]; exact hv
          · rw [upd_ne _ _ e] at hi ⊢
            exact hΦ i (x i) W w' (hI.2.1 i hi) hb'
        · by_cases e : i = k
          · subst e; rw [upd_same] at hi; cases hi
          · rw [upd_ne _ _ e] at hi ⊢
            exact hI.2.2 i hi
      by_cases hkn : k = n
      · subst hkn
        have hDall : ∀ j, j < k → D j = true := by
          intro j hj
          have hcl' : ∀ j, upd D k true j = true → ∀ q ∈ depsAt l.toArray j, upd D k true q = true := by
            intro j hj q hq
            by_cases eq : q = k
            · subst eq; rw [upd_same]
            rw [upd_ne _ _ eq]
            by_cases ej : j = k
            · subst ej
              have : depsAt l.toArray j = deps o := by
                have h1 : l.toArray[j]? = some o := by simpa using ho
                simp [depsAt, h1]
              rw [this] at hq
              exact hdep q hq
            · rw [upd_ne _ _ ej] at hj
              exact hcl j hj q hq
          have := need_all hneed hcl' (upd_same _ _ _) _ j (by omega) (Nat.le_refl _)
          rwa [upd_ne _ _ (show j ≠ k by omega)] at this
        obtain ⟨g1, g2⟩ := hs.2 rfl (fun j hj => hI.2.1 j (hDall j hj))
        refine .inl ⟨g1, Oper.wp_mono ?_ g2⟩
        rintro a' w' ⟨v, rfl, hR⟩
        refine ⟨v, rfl, ?_⟩
        unfold PhxI
        rw [if_pos (upd_same _ _ _)]
        exact hR
      · rcases hs.1 (by omega) with ⟨g1, g2⟩ | ⟨g1, g2⟩
        · refine .inl ⟨g1, Oper.wp_mono ?_ g2⟩
          rintro a' w' ⟨v, rfl, hb', hv⟩
          exact ⟨v, rfl, hnext v w' hb' hv hkn⟩
        · refine .inr ⟨g1, ?_⟩
          unfold PhxI
          rw [upd_ne _ _ (show n ≠ k from fun e => hkn e.symm), hDn, if_neg (by simp)]
          refine ⟨hI.1, fun i hi => ?_, fun i hi => ?_⟩
          · by_cases e : i = k
            · subst e; rw [upd_same]; exact g2
            · rw [upd_ne _ _ e] at hi ⊢
              exact hI.2.1 i hi
          · by_cases e : i = k
            · subst e; rw [upd_same] at hi; cases hi
            · rw [upd_ne _ _ e] at hi ⊢
              exact hI.2.2 i hi
    have aux : ∀ (r : List Oper) (s : Nat), (∀ k, r[k]? = l[s + k]?) → AllOps (fun i o => ∀ D x W (b : Act), PhxI T w0 n Φ R (fun j => slotV a ((dstOf l.toArray).getD (j - 0) none)) D x W → D i = false → (∀ j ∈ deps o, D j = true) → (∀ j, D j = true → ∀ q ∈ depsAt l.toArray j, D q = true) → (∀ t : Nat, b.tmps[t]?.getD undef = look (dstOf l.toArray) x a t) → (gOk l.toArray o b ∧ o.wp P b W (StepPost (PhxI T w0 n Φ R (fun j => slotV a ((dstOf l.toArray).getD (j - 0) none))) D x i b o.dst) NoQ) ∨ (gNo l.toArray o b ∧ PhxI T w0 n Φ R (fun j => slotV a ((dstOf l.toArray).getD (j - 0) none)) (upd D i true) (upd x i undef) W)) s r := by
      intro r
      induction r with
      | nil => intro s _; trivial
      | cons o r ih =>
        intro s hr
        refine ⟨key s o (by have := hr 0; simpa using this.symm), ih (s + 1) (fun k => ?_)⟩
        have := hr (k + 1)
        rw [List.getElem?_cons_succ] at this
        rw [this]; congr 1; omega
    exact aux l 0 (fun k => by rw [Nat.zero_add])
  · intro D x W hI hall
    have hDn := hall n (by omega)
    unfold PhxI at hI
    rw [if_pos hDn] at hI
    exact hend x W hI
/-- the same without a store at the end -/
theorem wp_region_phy {id : Nat} {l : List Oper} {a : Act} {w0 : World} (T : World → World → Prop) (Tr : ∀ {a b c}, T a b → T b c → T a c) (T0 : T w0 w0.drew) (hm : P.follows .mixedOrders = true) (hd : apartD (dstOf l.toArray) = true) (hb : backD l.toArray = true) (hn : inD a.tmps.size (dstOf l.toArray) = true)
    (Φ : Nat → Value → World → Prop) (hΦ : ∀ i v w w', Φ i v w → T w w' → Φ i v w')
    (hstep : AllOps (fun i o => ∀ (x : Nat → Value) w (b : Act), T w0 w → (∀ j ∈ deps o, Φ j (x j) w) → (∀ j, i ∈ depsAt l.toArray j → x j = slotV a ((dstOf l.toArray).getD (j - 0) none)) → (∀ t : Nat, b.tmps[t]?.getD undef = look (dstOf l.toArray) x a t) →
      (gOk l.toArray o b ∧ o.wp P b w (PhxPost T w Φ i b o.dst) NoQ) ∨ (gNo l.toArray o b ∧ Φ i undef w)) 0 l)
    (hend : ∀ (x : Nat → Value) w, T w0 w → (∀ i, i < l.length → Φ i (x i) w) → Q .normal (putAll (dstOf l.toArray) 0 x a) w) : (Code.region id l.toArray true).wp P Q a w0 := by
  refine wp_region_facts2X hm hd hb hn (fun D x w => T w0 w ∧ (∀ i, D i = true → Φ i (x i) w) ∧ ∀ i, D i = false → x i = (fun j => slotV a ((dstOf l.toArray).getD (j - 0) none)) i) ⟨T0, fun i h => Bool.noConfusion h, fun _ _ => rfl⟩ ?_ ?_
  · have key : ∀ k o, l[k]? = some o → ∀ D x W (b : Act), (T w0 W ∧ (∀ i, D i = true → Φ i (x i) W) ∧ ∀ i, D i = false → x i = (fun j => slotV a ((dstOf l.toArray).getD (j - 0) none)) i) → D k = false → (∀ j ∈ deps o, D j = true) → (∀ j, D j = true → ∀ q ∈ depsAt l.toArray j, D q = true) → (∀ t : Nat, b.tmps[t]?.getD undef = look (dstOf l.toArray) x a t) → (gOk l.toArray o b ∧ o.wp P b W (StepPost (fun D x w => T w0 w ∧ (∀ i, D i = true → Φ i (x i) w) ∧ ∀ i, D i = false → x i = (fun j => slotV a ((dstOf l.toArray).getD (j - 0) none)) i) D x k b o.dst) NoQ) ∨ (gNo l.toArray o b ∧ (T w0 W ∧ (∀ i, upd D k true i = true → Φ i (upd x k undef i) W) ∧ ∀ i, upd D k true i = false → upd x k undef i = (fun j => slotV a ((dstOf l.toArray).getD (j - 0) none)) i)) := by
      intro k o ho D x W b hI hD hdep hcl hbt
      have hs := hstep.get _ _ k o ho x W b hI.1 (fun j hj => hI.2.1 j (hdep j hj)) (fun j hj => hI.2.2 j (by
        cases h : D j with
        | false => rfl
        | true =>
          rw [Nat.zero_add] at hj
          have := hcl j h k hj
          rw [hD] at this; cases this)) hbt
      rw [Nat.zero_add] at hs
      rcases hs with ⟨g1, g2⟩ | ⟨g1, g2⟩
      · refine .inl ⟨g1, Oper.wp_mono ?_ g2⟩
        rintro a' w' ⟨v, rfl, hb', hv⟩
        refine ⟨v, rfl, Tr hI.1 hb', fun i hi => ?_, fun i hi => ?_⟩
        · by_cases e : i = k
          · subst e; rw [upd_same]; exact hv
          · rw [upd_ne _ _ e] at hi ⊢
            exact hΦ i (x i) W w' (hI.2.1 i hi) hb'
        · by_cases e : i = k
          · subst e; rw [upd_same] at hi; cases hi
          · rw [upd_ne _ _ e] at hi ⊢
            exact hI.2.2 i hi
      · refine .inr ⟨g1, hI.1, fun i hi => ?_, fun i hi => ?_⟩
        · by_cases e : i = k
          · subst e; rw [upd_same]; exact g2
          · rw [upd_ne _ _ e] at hi ⊢
            exact hI.2.1 i hi
        · by_cases e : i = k
          · subst e; rw [upd_same] at hi; cases hi
          · rw [upd_ne _ _ e] at hi ⊢
            exact hI.2.2 i hi
    have aux : ∀ (r : List Oper) (s : Nat), (∀ k, r[k]? = l[s + k]?) → AllOps (fun k o => ∀ D x W (b : Act), (T w0 W ∧ (∀ i, D i = true → Φ i (x i) W) ∧ ∀ i, D i = false → x i = (fun j => slotV a ((dstOf l.toArray).getD (j - 0) none)) i) → D k = false → (∀ j ∈ deps o, D j = true) → (∀ j, D j = true → ∀ q ∈ depsAt l.toArray j, D q = true) → (∀ t : Nat, b.tmps[t]?.getD undef = look (dstOf l.toArray) x a t) → (gOk l.toArray o b ∧ o.wp P b W (StepPost (fun D x w => T w0 w ∧ (∀ i, D i = true → Φ i (x i) w) ∧ ∀ i, D i = false → x i = (fun j => slotV a ((dstOf l.toArray).getD (j - 0) none)) i) D x k b o.dst) NoQ) ∨ (gNo l.toArray o b ∧ (T w0 W ∧ (∀ i, upd D k true i = true → Φ i (upd x k undef i) W) ∧ ∀ i, upd D k true i = false → upd x k undef i = (fun j => slotV a ((dstOf l.toArray).getD (j - 0) none)) i))) s r := by
      intro r
      induction r with
      | nil => intro s _; trivial
      | cons o r ih =>
        intro s hr
        refine ⟨key s o (by have := hr 0; simpa using this.symm), ih (s + 1) (fun k => ?_)⟩
        have := hr (k + 1)
        rw [List.getElem?_cons_succ] at this
        rw [this]; congr 1; omega
    exact aux l 0 (fun k => by rw [Nat.zero_add])
  · intro D x W hI hall
    exact hend x W hI.1 (fun i hi => hI.2.1 i (hall i hi))
variable {w : World} {T : World → World → Prop} {Φ : Nat → Value → World → Prop} {i : Nat} {b : Act} {o : Oper}
theorem phx_run (v : Value) (h : (execOp b.eval o).run P w = .ok (.value v) w) (hT : T w w) (hv : Φ i v w) : o.wp P b w (PhxPost T w Φ i b o.dst) NoQ := by
  unfold Oper.wp; rw [h]; exact ⟨v, rfl, hT, hv⟩
theorem phx_make (v : Value) (w' : World) (h : (execOp b.eval o).run P w = .ok (.value v) w') (hb : T w w') (hv : Φ i v w') : o.wp P b w (PhxPost T w Φ i b o.dst) NoQ := by
  unfold Oper.wp; rw [h]; exact ⟨v, rfl, hb, hv⟩
theorem phx_call {f : FuncId} {args : Array Value} (h : (execOp b.eval o).run P w = .ok (.enter f args) w) (hc : Calls P f args w fun e w' => ∃ v, e = .returned v ∧ T w w' ∧ Φ i v w') : o.wp P b w (PhxPost T w Φ i b o.dst) NoQ := by
  unfold Oper.wp; rw [h]
  simp only [Oper.upon]
  refine hc.mono ?_
  rintro e w' ⟨v, rfl, hb, hv⟩
  exact ⟨v, rfl, hb, hv⟩
theorem phx_st {R : World → Prop} (W : World) (h : (execOp b.eval o).run P w = .ok .skip W) (ho : o.dst = none) (hR : R W) : o.wp P b w (fun a' w' => ∃ v, a' = b.put o.dst v ∧ R w') NoQ := by
  unfold Oper.wp; rw [h]; exact ⟨undef, by rw [ho], hR⟩
end
end Go.Proofs.YtbkgpfalljgdcaaGreatDoor

namespace Go.Proofs.YtbkgpfalljgdcaaGreatDoor
open Go.RowKit
set_option linter.unusedVariables false

/-- in the columns behind k, before x, the multiple of q has been taken away -/
def cmbF (p f k x : Nat) (q r : List Nat) : List Nat := (List.range r.length).map fun j => if k < j ∧ j < x ∧ gn q j ≠ 0 then subF p (gn r j) (f * gn q j % p) else gn r j
theorem cmbF_length (p f k x : Nat) (q r : List Nat) : (cmbF p f k x q r).length = r.length := by simp [cmbF]
theorem gn_cmbF {p f k x : Nat} {q r : List Nat} {j : Nat} (h : j < r.length) : gn (cmbF p f k x q r) j = if k < j ∧ j < x ∧ gn q j ≠ 0 then subF p (gn r j) (f * gn q j % p) else gn r j := by
  unfold cmbF; rw [gn_map_range, if_pos h]
theorem cmbF_start (p f k : Nat) (q r : List Nat) : cmbF p f k (k + 1) q r = r := by
  apply gn_ext (cmbF_length _ _ _ _ _ _)
  intro i hi
  rw [cmbF_length] at hi
  rw [gn_cmbF hi, if_neg (by omega)]
theorem cmbF_step {p f k x : Nat} {q r : List Nat} (h1 : k < x) (h2 : x < r.length) (h3 : gn q x ≠ 0) : (cmbF p f k x q r).set x (subF p (gn r x) (f * gn q x % p)) = cmbF p f k (x + 1) q r := by
  apply gn_ext (by simp [cmbF_length])
  intro i hi
  have hi' : i < r.length := by simpa [cmbF_length] using hi
  rw [gn_set _ _ _ _ (by rw [cmbF_length]; exact h2), gn_cmbF hi', gn_cmbF hi']
  by_cases e : i = x
  · subst e; rw [if_pos rfl, if_pos ⟨h1, by omega, h3⟩]
  · rw [if_neg e]
    by_cases c : k < i ∧ i < x ∧ gn q i ≠ 0
    · rw [if_pos c, if_pos ⟨c.1, by omega, c.2.2⟩]
    · rw [if_neg c, if_neg (fun h => c ⟨h.1, by omega, h.2.2⟩)]
theorem cmbF_skip {p f k x : Nat} {q r : List Nat} (h3 : gn q x = 0) : cmbF p f k x q r = cmbF p f k (x + 1) q r := by
  apply gn_ext (by simp [cmbF_length])
  intro i hi
  have hi' : i < r.length := by simpa [cmbF_length] using hi
  rw [gn_cmbF hi', gn_cmbF hi']
  by_cases e : i = x
  · subst e; rw [if_neg (fun h => h.2.2 h3), if_neg (fun h => h.2.2 h3)]
  · by_cases c : k < i ∧ i < x ∧ gn q i ≠ 0
    · rw [if_pos c, if_pos ⟨c.1, by omega, c.2.2⟩]
    · rw [if_neg c, if_neg (fun h => c ⟨h.1, by omega, h.2.2⟩)]
theorem gn_cmbF_at {p f k x : Nat} {q r : List Nat} (h : x < r.length) : gn (cmbF p f k x q r) x = gn r x := by rw [gn_cmbF h, if_neg (by omega)]
theorem cmbF_lt {p f k x : Nat} {q r : List Nat} (hp : 0 < p) (h : ∀ j, gn r j < p) (j : Nat) : gn (cmbF p f k x q r) j < p := by
  rcases Nat.lt_or_ge j r.length with hj | hj
  · rw [gn_cmbF hj]
    split
    · exact subF_lt (h j) (Nat.mod_lt _ hp)
    · exact h j
  · unfold gn; rw [List.getElem?_eq_none (by rw [cmbF_length]; exact hj)]; exact hp
set_option maxHeartbeats 4000000 in
set_option maxRecDepth 100000 in
theorem fcombine_any (p rt b c kb pb fb C : Nat) (r q : List Nat) (f k : Nat) (w : World) (hr : Arr w b 115 (uc r)) (hq : Arr w c 115 (uc q)) (hkb : Arr w kb 3 [.int .i64 (k : Int)]) (hpb : Arr w pb 118 [hd C c]) (hfb : Arr w fb 117 [.int .u64 (p : Int), .int .u64 (rt : Int)])
    (hbc : b ≠ c) (hb1 : b ≠ kb) (hb2 : b ≠ pb) (hb3 : b ≠ fb) (hrl : r.length = C) (hql : q.length = C) (hC : C ≤ 1000) (hk : k < C) (hp0 : 2 < p) (hp : p < 9223372036854775808) (hf : f < p)
    (hrs : ∀ j, gn r j < p) (hqs : ∀ j, gn q j < p) :
    Calls Tryz.prog 118 #[.slice (some ⟨b, 0, none⟩) C C, .int .u64 (f : Nat), .pointer (some ⟨kb, 0, none⟩), .pointer (some ⟨pb, 0, none⟩), .pointer (some ⟨fb, 0, none⟩)] w fun e w' => e = .returned (.tuple #[]) ∧ Arr w' b 115 (uc (cmbF p f k C q r)) ∧ Wr [b] w w' := by
  have y0 := hkb.cell 0
  have HRS := Lib.hid hrs
  have HQS := Lib.hid hqs
  have HRL := Lib.hid hrl
  have HQL := Lib.hid hql
  have nb : ∀ {x : Nat}, b ≠ x → x ∉ [b] := fun h e => h (List.mem_singleton.1 e).symm
  clear hrs hqs hrl hql
  go_enter Tryz.func118, Tryz.ntmps118
  go_wp2_with fail
  go_loopg [7] (C - (k + 1)) (fun gk s7 wr => ∃ jx : Nat, k + 1 ≤ jx ∧ jx ≤ C ∧ gk = C - jx ∧ s7 = .int .i64 (jx : Int) ∧ Arr wr b 115 (uc (cmbF p f k jx q r)) ∧ Wr [b] w wr)
  case atStart => exact ⟨k + 1, Nat.le_refl _, hk, rfl, rfl, by rw [cmbF_start]; exact hr, Wr.refl _ _⟩
  case round =>
    clear y0
    obtain ⟨jx, hkx, hx, rfl, rfl, hb, ho⟩ := hrel
    by_cases hlt : jx < C
    · have z1 : (jx : Int) < (C : Int) := by omega
      have hxr : jx < r.length := by rw [HRL.out]; exact hlt
      have HZ := Lib.hid z1
      have hqw := hq.wr ho (nb hbc)
      have hpw := hpb.wr ho (nb hb2)
      have hfw := hfb.wr ho (nb hb3)
      have HF := Lib.hid hfw
      have HPV := Lib.hid (show Arr wr pb 118 [.slice (some ⟨c, 0, none⟩) C C] from hpw)
      have HQ := Lib.hid (fun W (hb : Below wr.heap.size wr W) => ((hqw.below hb hqw.lt).cell jx).trans (uc_get (by rw [HQL.out]; exact hlt)))
      have HR := Lib.hid (fun W (hb' : Below wr.heap.size wr W) => (show W.cell? ⟨b, jx, none⟩ = some (.int .u64 (gn r jx : Nat)) from by
        have h1 := ((hb.below hb' hb.lt).cell jx).trans (uc_get (by rw [cmbF_length]; exact hxr))
        rw [gn_cmbF_at hxr] at h1
        exact h1))
      have HFZ := Lib.hid (fun W (hb' : Below wr.heap.size wr W) => (hb.below hb' hb.lt).frozen jx)
      have zq := HQ.out wr (Below.refl _ _)
      have zp := HPV.out.cell 0
      have h1 := HRS.out jx
      have h2 := HQS.out jx
      by_cases hv0 : gn q jx = 0
      · have HSK := Lib.hid (cmbF_skip (p := p) (f := f) (k := k) (r := r) hv0)
        rw [hv0] at zq
        have HBB := Lib.hid hb
        have HO := Lib.hid ho
        clear hb ho hqw hpw hfw HQ HR HFZ HF HPV hv0 h2
        go_wp2_with fail
        go_roundg (C - (jx + 1))
        case measure => omega
        case rel => exact ⟨jx + 1, by omega, by omega, rfl, by go_num, by rw [← HSK.out]; exact HBB.out, HO.out⟩
      · have HM := Lib.hid (fun W => fmul_any p rt f (gn q jx) W (by omega) (by omega) (by omega) (by omega))
        have hml : f * gn q jx % p < p := Nat.mod_lt _ (by omega)
        have HS := Lib.hid (fun W => fsub_any p rt (gn r jx) (f * gn q jx % p) W hp h1 hml)
        have HN := Lib.hid (fun (w9 : World) (hW : Below wr.heap.size wr w9) => (show Arr (w9.setCell ⟨b, jx, none⟩ (.int .u64 ((subF p (gn r jx) (f * gn q jx % p) : Nat) : Int))) b 115 (uc (cmbF p f k (jx + 1) q r)) ∧ Wr [b] w (w9.setCell ⟨b, jx, none⟩ (.int .u64 ((subF p (gn r jx) (f * gn q jx % p) : Nat) : Int))) from by
          rw [← cmbF_step (by omega) hxr hv0, ← uc_set]
          exact ⟨(hb.below hW hb.lt).set jx _, (ho.trans (Wr.of_below hW)).setCell (List.mem_singleton.2 rfl) jx _⟩))
        have z0 : (((gn q jx : Nat) : Int) != 0) = true := by rw [bne_iff_ne]; omega
        generalize f * gn q jx % p = vp at *
        generalize gn q jx = vq at *
        generalize subF p (gn r jx) vp = vn at *
        generalize gn r jx = vr at *
        clear hb ho hqw hpw hfw
        go_upto_region 4 with fail
        clear zq zp z0
        refine wp_region_phx (fun a b => Below a.heap.size a b) (fun h k => h.trans (k.mono h.size)) ((Below.refl _ _).drew) 16 (by kernel_rfl) (by kernel_rfl) (by kernel_rfl) (by kernel_rfl) rfl (by kernel_rfl) (phiT (fun i => ([some (.slice (some ⟨b, 0, none⟩) C C), some (.int .i64 (jx : Int)), some (.agg #[.int .u64 (p : Int), .int .u64 (rt : Int)]), some (.slice (some ⟨b, 0, none⟩) C C), some (.int .i64 (jx : Int)), some (.pointer (some ⟨b, jx, none⟩)), some (.int .u64 ((vr : Nat) : Int)), some (.agg #[.int .u64 (p : Int), .int .u64 (rt : Int)]), some (.int .u64 ((f : Nat) : Int)), some (.slice (some ⟨c, 0, none⟩) C C), some (.int .i64 (jx : Int)), some (.pointer (some ⟨c, jx, none⟩)), some (.int .u64 ((vq : Nat) : Int)), some (.int .u64 ((vp : Nat) : Int)), some (.int .u64 ((vn : Nat) : Int)), some (.pointer (some ⟨b, jx, none⟩)), some (undef)] : List (Option Value)).getD i none) (fun i v w => True)) (fun i v w w' h hb => ?_) (fun _ W => ∃ w9, Below wr.heap.size wr w9 ∧ W = w9.setCell ⟨b, jx, none⟩ (.int .u64 ((vn : Nat) : Int))) ⟨?_, ?_, ?_, ?_, ?_, ?_, ?_, ?_, ?_, ?_, ?_, ?_, ?_, ?_, ?_, ?_, ?_, trivial⟩ ?_
        · unfold phiT at h ⊢
          split
          · next u hu => rw [hu] at h; exact h
          · next hu =>
            rw [hu] at h
            exact True.intro
        · intro x w1 bA hT hdep hold hb
          refine ⟨fun _ => ?_, fun h => absurd h (by decide)⟩
          refine .inl ⟨trivial, ?_⟩
          have e0 : bA.tmps[0]?.getD undef = .slice (some ⟨b, 0, none⟩) C C := hb 0
          refine phx_run (.slice (some ⟨b, 0, none⟩) C C) ?_ (Below.refl _ _) rfl
          clear hb hdep hold
          go_simp
        · intro x w1 bA hT hdep hold hb
          refine ⟨fun _ => ?_, fun h => absurd h (by decide)⟩
          refine .inl ⟨trivial, ?_⟩
          have e7 : bA.tmps[7]?.getD undef = .int .i64 (jx : Int) := hb 7
          refine phx_run (.int .i64 (jx : Int)) ?_ (Below.refl _ _) rfl
          clear hb hdep hold
          go_simp
        · intro x w1 bA hT hdep hold hb
          refine ⟨fun _ => ?_, fun h => absurd h (by decide)⟩
          refine .inl ⟨trivial, ?_⟩
          have e4 : bA.tmps[4]?.getD undef = .pointer (some ⟨fb, 0, none⟩) := hb 4
          have cc0 := (HF.out.below hT HF.out.lt).cell 0
          have cc1 := (HF.out.below hT HF.out.lt).cell 1
          refine phx_run (.agg #[.int .u64 (p : Int), .int .u64 (rt : Int)]) ?_ (Below.refl _ _) rfl
          clear hb hdep hold
          go_simp
        · intro x w1 bA hT hdep hold hb
          refine ⟨fun _ => ?_, fun h => absurd h (by decide)⟩
          refine .inl ⟨trivial, ?_⟩
          have e0 : bA.tmps[0]?.getD undef = .slice (some ⟨b, 0, none⟩) C C := hb 0
          refine phx_run (.slice (some ⟨b, 0, none⟩) C C) ?_ (Below.refl _ _) rfl
          clear hb hdep hold
          go_simp
        · intro x w1 bA hT hdep hold hb
          refine ⟨fun _ => ?_, fun h => absurd h (by decide)⟩
          refine .inl ⟨trivial, ?_⟩
          have e7 : bA.tmps[7]?.getD undef = .int .i64 (jx : Int) := hb 7
          refine phx_run (.int .i64 (jx : Int)) ?_ (Below.refl _ _) rfl
          clear hb hdep hold
          go_simp
        · intro x w1 bA hT hdep hold hb
          refine ⟨fun _ => ?_, fun h => absurd h (by decide)⟩
          refine .inl ⟨trivial, ?_⟩
          have e24 : bA.tmps[24]?.getD undef = .slice (some ⟨b, 0, none⟩) C C := (hb 24).trans (hdep 3 (by decide))
          have e25 : bA.tmps[25]?.getD undef = .int .i64 (jx : Int) := (hb 25).trans (hdep 4 (by decide))
          have zz := HZ.out
          refine phx_run (.pointer (some ⟨b, jx, none⟩)) ?_ (Below.refl _ _) rfl
          clear hb hdep hold
          go_simp
        · intro x w1 bA hT hdep hold hb
          refine ⟨fun _ => ?_, fun h => absurd h (by decide)⟩
          refine .inl ⟨trivial, ?_⟩
          have e26 : bA.tmps[26]?.getD undef = .pointer (some ⟨b, jx, none⟩) := (hb 26).trans (hdep 5 (by decide))
          have cc := HR.out w1 hT
          refine phx_run (.int .u64 ((vr : Nat) : Int)) ?_ (Below.refl _ _) rfl
          clear hb hdep hold
          go_simp
        · intro x w1 bA hT hdep hold hb
          refine ⟨fun _ => ?_, fun h => absurd h (by decide)⟩
          refine .inl ⟨trivial, ?_⟩
          have e4 : bA.tmps[4]?.getD undef = .pointer (some ⟨fb, 0, none⟩) := hb 4
          have cc0 := (HF.out.below hT HF.out.lt).cell 0
          have cc1 := (HF.out.below hT HF.out.lt).cell 1
          refine phx_run (.agg #[.int .u64 (p : Int), .int .u64 (rt : Int)]) ?_ (Below.refl _ _) rfl
          clear hb hdep hold
          go_simp
        · intro x w1 bA hT hdep hold hb
          refine ⟨fun _ => ?_, fun h => absurd h (by decide)⟩
          refine .inl ⟨trivial, ?_⟩
          have e1 : bA.tmps[1]?.getD undef = .int .u64 ((f : Nat) : Int) := hb 1
          refine phx_run (.int .u64 ((f : Nat) : Int)) ?_ (Below.refl _ _) rfl
          clear hb hdep hold
          go_simp
        · intro x w1 bA hT hdep hold hb
          refine ⟨fun _ => ?_, fun h => absurd h (by decide)⟩
          refine .inl ⟨trivial, ?_⟩
          have e3 : bA.tmps[3]?.getD undef = .pointer (some ⟨pb, 0, none⟩) := hb 3
          have cc0 := (HPV.out.below hT HPV.out.lt).cell 0
          refine phx_run (.slice (some ⟨c, 0, none⟩) C C) ?_ (Below.refl _ _) rfl
          clear hb hdep hold
          go_simp
        · intro x w1 bA hT hdep hold hb
          refine ⟨fun _ => ?_, fun h => absurd h (by decide)⟩
          refine .inl ⟨trivial, ?_⟩
          have e7 : bA.tmps[7]?.getD undef = .int .i64 (jx : Int) := hb 7
          refine phx_run (.int .i64 (jx : Int)) ?_ (Below.refl _ _) rfl
          clear hb hdep hold
          go_simp
        · intro x w1 bA hT hdep hold hb
          refine ⟨fun _ => ?_, fun h => absurd h (by decide)⟩
          refine .inl ⟨trivial, ?_⟩
          have e30 : bA.tmps[30]?.getD undef = .slice (some ⟨c, 0, none⟩) C C := (hb 30).trans (hdep 9 (by decide))
          have e31 : bA.tmps[31]?.getD undef = .int .i64 (jx : Int) := (hb 31).trans (hdep 10 (by decide))
          have zz := HZ.out
          refine phx_run (.pointer (some ⟨c, jx, none⟩)) ?_ (Below.refl _ _) rfl
          clear hb hdep hold
          go_simp
        · intro x w1 bA hT hdep hold hb
          refine ⟨fun _ => ?_, fun h => absurd h (by decide)⟩
          refine .inl ⟨trivial, ?_⟩
          have e32 : bA.tmps[32]?.getD undef = .pointer (some ⟨c, jx, none⟩) := (hb 32).trans (hdep 11 (by decide))
          have cc := HQ.out w1 hT
          refine phx_run (.int .u64 ((vq : Nat) : Int)) ?_ (Below.refl _ _) rfl
          clear hb hdep hold
          go_simp
        · intro x w1 bA hT hdep hold hb
          refine ⟨fun _ => ?_, fun h => absurd h (by decide)⟩
          refine .inl ⟨trivial, ?_⟩
          have e28 : bA.tmps[28]?.getD undef = .agg #[.int .u64 (p : Int), .int .u64 (rt : Int)] := (hb 28).trans (hdep 7 (by decide))
          have e29 : bA.tmps[29]?.getD undef = .int .u64 ((f : Nat) : Int) := (hb 29).trans (hdep 8 (by decide))
          have e33 : bA.tmps[33]?.getD undef = .int .u64 ((vq : Nat) : Int) := (hb 33).trans (hdep 12 (by decide))
          refine phx_call ?_ ((HM.out w1).mono fun e w' h => ⟨_, h.1, h.2, rfl⟩)
          clear hb hdep hold
          go_simp
        · intro x w1 bA hT hdep hold hb
          refine ⟨fun _ => ?_, fun h => absurd h (by decide)⟩
          refine .inl ⟨trivial, ?_⟩
          have e23 : bA.tmps[23]?.getD undef = .agg #[.int .u64 (p : Int), .int .u64 (rt : Int)] := (hb 23).trans (hdep 2 (by decide))
          have e27 : bA.tmps[27]?.getD undef = .int .u64 ((vr : Nat) : Int) := (hb 27).trans (hdep 6 (by decide))
          have e34 : bA.tmps[34]?.getD undef = .int .u64 ((vp : Nat) : Int) := (hb 34).trans (hdep 13 (by decide))
          refine phx_call ?_ ((HS.out w1).mono fun e w' h => ⟨_, h.1, h.2, rfl⟩)
          clear hb hdep hold
          go_simp
        · intro x w1 bA hT hdep hold hb
          refine ⟨fun _ => ?_, fun h => absurd h (by decide)⟩
          refine .inl ⟨trivial, ?_⟩
          have e21 : bA.tmps[21]?.getD undef = .slice (some ⟨b, 0, none⟩) C C := (hb 21).trans (hdep 0 (by decide))
          have e22 : bA.tmps[22]?.getD undef = .int .i64 (jx : Int) := (hb 22).trans (hdep 1 (by decide))
          have zz := HZ.out
          refine phx_run (.pointer (some ⟨b, jx, none⟩)) ?_ (Below.refl _ _) rfl
          clear hb hdep hold
          go_simp
        · intro x w1 bA hT hdep hold hb
          refine ⟨fun h => absurd h (by decide), fun _ hall => ?_⟩
          refine ⟨trivial, ?_⟩
          have e35 : bA.tmps[35]?.getD undef = .int .u64 ((vn : Nat) : Int) := (hb 35).trans (hdep 14 (by decide))
          have e36 : bA.tmps[36]?.getD undef = .pointer (some ⟨b, jx, none⟩) := (hb 36).trans (hdep 15 (by decide))
          clear hb hdep hold
          have ccf := HFZ.out w1 hT
          have cco := HR.out w1 hT
          have HTT := Lib.hid hT
          clear hT
          refine phx_st (R := fun W => ∃ w9, Below wr.heap.size wr w9 ∧ W = w9.setCell ⟨b, jx, none⟩ (.int .u64 ((vn : Nat) : Int))) (w1.setCell ⟨b, jx, none⟩ (.int .u64 ((vn : Nat) : Int))) ?_ rfl ⟨w1, HTT.out, rfl⟩
          go_simp
        intro x' w1 hR
        obtain ⟨w9, hw9, rfl⟩ := hR
        have HNN := Lib.hid (HN.out w9 hw9)
        simp only [putAll, dstOf, Act.put, List.map_cons, List.map_nil, List.setIfInBounds_toArray, List.set_cons_succ, List.set_cons_zero, Nat.reduceAdd]
        clear hw9 HN HM HS HQ HR HFZ HF HPV
        go_wp2_with fail
        go_roundg (C - (jx + 1))
        case measure => omega
        case rel => exact ⟨jx + 1, by omega, by omega, rfl, by go_num, HNN.out.1, HNN.out.2⟩
    · have z1 : ¬ ((jx : Int) < (C : Int)) := by omega
      have HX := Lib.hid (show jx = C by omega)
      have HBB := Lib.hid hb
      have HO := Lib.hid ho
      clear hb ho
      go_wp2_with fail
      go_end0
      exact ⟨rfl, by rw [← HX.out]; exact HBB.out, HO.out⟩
end Go.Proofs.YtbkgpfalljgdcaaGreatDoor

namespace Go.Proofs.YtbkgpfalljgdcaaGreatDoor
open Go.RowKit
set_option linter.unusedVariables false

def Ltm (m : Nat) (A : List (List Nat)) : Prop := ∀ i j, ge A i j < m
def Cl (C : Nat) (A : List (List Nat)) : Prop := ∀ i, i < A.length → (gr A i).length = C
theorem gn_out {r : List Nat} {j : Nat} (h : r.length ≤ j) : gn r j = 0 := by unfold gn; rw [List.getElem?_eq_none h]; rfl
theorem Ltm.swR {m : Nat} {A : List (List Nat)} (h : Ltm m A) {i k : Nat} (hi : i < A.length) (hk : k < A.length) : Ltm m (swR A i k) := by
  intro x y
  unfold ge
  rw [gr_swR hi hk]
  split
  · exact h i y
  · split
    · exact h k y
    · exact h x y
theorem Cl.swR {C : Nat} {A : List (List Nat)} {i k : Nat} (hc : Cl C A) (hi : i < A.length) (hk : k < A.length) : Cl C (swR A i k) := by
  intro x hx
  rw [swR_length] at hx
  rw [gr_swR hi hk]
  split
  · exact hc i hi
  · split
    · exact hc k hk
    · exact hc x hx
theorem Ltm.updR {m C : Nat} {A : List (List Nat)} (h : Ltm m A) (hc : Cl C A) (hm : 0 < m) {lo hi : Nat} {f : List Nat → List Nat} (hf : ∀ r, r.length = C → (∀ j, gn r j < m) → ∀ j, gn (f r) j < m) : Ltm m (updR A lo hi f) := by
  intro x y
  unfold ge
  by_cases hx : x < A.length
  · rw [gr_updR hx]
    split
    · exact hf _ (hc x hx) (fun j => h x j) y
    · exact h x y
  · rw [gr_out (by rw [updR_length]; omega), gn_out (by simp)]; exact hm
theorem Cl.updR {C : Nat} {A : List (List Nat)} (hc : Cl C A) {lo hi : Nat} {f : List Nat → List Nat} (hf : ∀ r, r.length = C → (f r).length = C) : Cl C (updR A lo hi f) := by
  intro i hi'
  rw [updR_length] at hi'
  rw [gr_updR hi']
  split
  · exact hf _ (hc i hi')
  · exact hc i hi'
theorem swR_self (A : List (List Nat)) (k : Nat) : swR A k k = A := by
  by_cases h : k < A.length
  · apply gr_ext (swR_length _ _ _)
    intro i _
    rw [gr_swR h h]
    split
    · next e => rw [e]
    · rfl
  · unfold swR; rw [List.set_eq_of_length_le (by simp; omega), List.set_eq_of_length_le (by omega)]
theorem set_gr_self (A : List (List Nat)) (i : Nat) : A.set i (gr A i) = A := by
  apply gr_ext (by simp)
  intro c hc
  by_cases h : i < A.length
  · rw [gr_set _ _ _ _ h]; split
    · next e => rw [e]
    · rfl
  · rw [List.set_eq_of_length_le (by omega)]
theorem swap_hd (C : Nat) (bs : List Nat) (i k b c : Nat) : ((bs.map (hd C)).set i (hd C c)).set k (hd C b) = ((bs.set i c).set k b).map (hd C) := by
  rw [← List.map_set, ← List.map_set]
theorem swap_all {w : World} {R C : Nat} {bs : List Nat} {A : List (List Nat)} (h : MU w R bs C A) {i k b c : Nat} (hi : bs[i]? = some b) (hk : bs[k]? = some c) :
    MU ((w.drew.setCell ⟨R, i, none⟩ (.slice (some ⟨c, 0, none⟩) C C)).setCell ⟨R, k, none⟩ (.slice (some ⟨b, 0, none⟩) C C)) R ((bs.set i c).set k b) C (swR A i k) ∧ (∀ x ∈ (bs.set i c).set k b, x ∈ bs) ∧
      Wr (R :: bs) w ((w.drew.setCell ⟨R, i, none⟩ (.slice (some ⟨c, 0, none⟩) C C)).setCell ⟨R, k, none⟩ (.slice (some ⟨b, 0, none⟩) C C)) := by
  have o : Onl R w ((w.drew.setCell ⟨R, i, none⟩ (.slice (some ⟨c, 0, none⟩) C C)).setCell ⟨R, k, none⟩ (.slice (some ⟨b, 0, none⟩) C C)) := ((Onl.refl R w).drew.setCell i _).setCell k _
  have ha := ((h.drew.outer.set i (hd C c)).set k (hd C b))
  rw [swap_hd] at ha
  have hs := h.swap hi hk o ha
  exact ⟨hs.1, hs.2, Wr.of_onl o (by simp)⟩

/-- the first row from i on that has an element other than 0 in column k; i + f where there is none -/
def pvF (A : List (List Nat)) (k : Nat) : Nat → Nat → Nat
  | i, 0 => i
  | i, f + 1 => if ge A i k = 0 then pvF A k (i + 1) f else i
theorem pvF_miss {A : List (List Nat)} {k i f : Nat} (h : ge A i k = 0) : pvF A k i (f + 1) = pvF A k (i + 1) f := by rw [pvF, if_pos h]
theorem pvF_hit {A : List (List Nat)} {k i f : Nat} (h : ge A i k ≠ 0) : pvF A k i (f + 1) = i := by rw [pvF, if_neg h]
theorem pvF_range {A : List (List Nat)} {k : Nat} : ∀ (f i : Nat), i ≤ pvF A k i f ∧ pvF A k i f ≤ i + f
  | 0, i => ⟨Nat.le_refl _, Nat.le_refl _⟩
  | f + 1, i => by
    by_cases h : ge A i k = 0
    · rw [pvF_miss h]; have := pvF_range f (i + 1) (A := A) (k := k); omega
    · rw [pvF_hit h]; omega
theorem pvF_pos {A : List (List Nat)} {k : Nat} : ∀ (f i : Nat), pvF A k i f < i + f → ge A (pvF A k i f) k ≠ 0
  | 0, i, h => by rw [pvF] at h; omega
  | f + 1, i, h => by
    by_cases h0 : ge A i k = 0
    · rw [pvF_miss h0] at h ⊢; exact pvF_pos f (i + 1) (by omega)
    · rw [pvF_hit h0]; exact h0
theorem pvF_none {A : List (List Nat)} {k : Nat} : ∀ (f i : Nat), pvF A k i f = i + f → ∀ j, i ≤ j → j < i + f → ge A j k = 0
  | 0, i, h, j, h1, h2 => by omega
  | f + 1, i, h, j, h1, h2 => by
    by_cases h0 : ge A i k = 0
    · rw [pvF_miss h0] at h
      rcases Nat.eq_or_lt_of_le h1 with e | e
      · rw [← e]; exact h0
      · exact pvF_none f (i + 1) (by omega) j e (by omega)
    · rw [pvF_hit h0] at h; omega
/-- a row below the pivot's -/
def mdR (p k : Nat) (iv : Nat) (piv r : List Nat) : List Nat := if gn r k = 0 then r else cmbF p (gn r k * iv % p) k r.length piv r
/-- the round for a pivot in its place -/
def mdN (p k : Nat) (A1 : List (List Nat)) : List (List Nat) := updR A1 (k + 1) A1.length (mdR p k (fInv p (ge A1 k k)) (gr A1 k))
def mdD (p d v x k : Nat) : Nat := (if x = k then d else subF p 0 d) * v % p
/-- what det returns -/
def detG (p : Nat) : Nat → List (List Nat) → Nat → Nat → Nat
  | 0, _, _, d => d
  | f + 1, A, k, d => if pvF A k k (A.length - k) < A.length then detG p f (mdN p k (swR A (pvF A k k (A.length - k)) k)) (k + 1) (mdD p d (ge (swR A (pvF A k k (A.length - k)) k) k k) (pvF A k k (A.length - k)) k) else 0
theorem detG_none {p f k d : Nat} {A : List (List Nat)} (h : ¬ pvF A k k (A.length - k) < A.length) : detG p (f + 1) A k d = 0 := by rw [detG, if_neg h]
theorem detG_some {p f k d x : Nat} {A : List (List Nat)} (hx : pvF A k k (A.length - k) = x) (h : x < A.length) : detG p (f + 1) A k d = detG p f (mdN p k (swR A x k)) (k + 1) (mdD p d (ge (swR A x k) k k) x k) := by rw [detG, hx, if_pos h]
theorem mdR_length (p k iv : Nat) (piv r : List Nat) : (mdR p k iv piv r).length = r.length := by unfold mdR; split <;> simp [cmbF_length]
theorem mdR_lt {p k iv : Nat} {piv r : List Nat} (hp : 0 < p) (h : ∀ j, gn r j < p) (j : Nat) : gn (mdR p k iv piv r) j < p := by
  unfold mdR; split
  · exact h j
  · exact cmbF_lt hp h j
theorem mdN_length (p k : Nat) (A : List (List Nat)) : (mdN p k A).length = A.length := updR_length _ _ _ _
theorem mdD_lt {p : Nat} (hp : 0 < p) (d v x k : Nat) : mdD p d v x k < p := Nat.mod_lt _ hp
theorem fInv_lt {p : Nat} (hp : 1 < p) (a : Nat) : fInv p a < p := pwm_lt hp _ _
end Go.Proofs.YtbkgpfalljgdcaaGreatDoor
