/- A region that draws its order, whose operations read or call quietly, but for a store at its end: each operation is walked once, by a table of values. -/
/- A region that draws its order: each operation is walked once; a relation T between worlds tells what the operations keep; guards are met or not; with or without a store at its end. -/
/- Translations keep grids valid (plain). -/
/- The end of a region that draws its order, where one slot alone is read afterwards. -/
/- grid.Format, unknot.class: walks. -/
import Derived.Test.YteigjfdgijaifaaDoorZPhg
import Derived.Deep.Draws
import Derived.Test.YteigjfdgijaifaaDoorZBl2
namespace Go.Proofs.YteigjfdgijaifaaDoor
open Go.RowKit
set_option linter.unusedVariables false

/-- every operation before the last is needed by a later one -/
def needB (ops : Array Oper) (n : Nat) : Bool := (List.range n).all fun i => (List.range (n + 1)).any fun j => decide (i < j) && (depsAt ops j).contains i
theorem need_all {ops : Array Oper} {n : Nat} (h : needB ops n = true) {D : Nat → Bool} (hcl : ∀ j, D j = true → ∀ k ∈ depsAt ops j, D k = true) (hn : D n = true) : ∀ q i, i ≤ n → n - i ≤ q → D i = true := by
  intro q
  induction q with
  | zero => intro i h1 h2; obtain rfl : i = n := by omega
            exact hn
  | succ q ih =>
    intro i h1 h2
    by_cases e : i = n
    · rw [e]; exact hn
    · have h3 := List.all_eq_true.1 h i (by simp; omega)
      obtain ⟨j, hj, h4⟩ := List.any_eq_true.1 h3
      simp only [Bool.and_eq_true, decide_eq_true_eq, List.contains_iff_mem] at h4
      simp only [List.mem_range] at hj
      exact hcl j (ih j (by omega) (by omega)) i h4.2

section
variable {P : Program} {Q : Exit → Act → World → Prop}
/-- behind one operation of the table -/
def TabPost (w : World) (ev : Nat → Value) (S : World → World) (n i : Nat) (b : Act) (d : Option Tmp) (a' : Act) (w' : World) : Prop := a' = b.put d (ev i) ∧ ∃ m, w' = if i = n then S (w.drewN m) else w.drewN m
/-- what the frame holds before operation o -/
def Tabs (l : List Oper) (ev : Nat → Value) (a : Act) (o : Oper) (b : Act) : Prop :=
  ∀ t : Nat, (match (dstOf l.toArray).idxOf? (some t) with | some j => (deps o).contains j | none => true) = true → b.tmps[t]?.getD undef = look (dstOf l.toArray) ev a t
def TabI (w : World) (ev : Nat → Value) (S : World → World) (n : Nat) (D : Nat → Bool) (x : Nat → Value) (W : World) : Prop :=
  (∀ i, D i = true → x i = ev i) ∧ ∃ m, W = if D n = true then S (w.drewN m) else w.drewN m
theorem wp_region_table {id : Nat} {l : List Oper} {a : Act} {w : World} (n : Nat) (hm : P.follows .mixedOrders = true) (hd : apartD (dstOf l.toArray) = true) (hb : backD l.toArray = true) (hg : l.all (fun o => o.guard.isNone) = true) (hn : inD a.tmps.size (dstOf l.toArray) = true)
    (hlen : l.length = n + 1) (hneed : needB l.toArray n = true) (ev : Nat → Value) (S : World → World)
    (hstep : AllOps (fun i o => ∀ m (b : Act), Tabs l ev a o b → o.wp P b (w.drewN m) (TabPost w ev S n i b o.dst) NoQ) 0 l)
    (hend : ∀ m, Q .normal (putAll (dstOf l.toArray) 0 ev a) (S (w.drewN m))) : (Code.region id l.toArray true).wp P Q a w := by
  refine wp_region_factsU hm hd hb hg hn (TabI w ev S n) (fun x => ⟨fun i h => Bool.noConfusion h, 1, rfl⟩) ?_ ?_
  · have key : ∀ k o, l[k]? = some o → ∀ D x W (b : Act), TabI w ev S n D x W → D k = false → (∀ j ∈ deps o, D j = true) → (∀ j, D j = true → ∀ q ∈ depsAt l.toArray j, D q = true) → (∀ t : Nat, b.tmps[t]?.getD undef = look (dstOf l.toArray) x a t) → o.wp P b W (StepPost (TabI w ev S n) D x k b o.dst) NoQ := by
      intro k o ho D x W b hI hD hdep hcl hbt
      have hk : k ≤ n := by have := (List.getElem?_eq_some_iff.1 ho).1; omega
      have hDn : D n = false := by
        cases h : D n with
        | false => rfl
        | true => have := need_all hneed hcl h _ k hk (Nat.le_refl _); rw [this] at hD; cases hD
      obtain ⟨hx, m, hW⟩ := hI
      rw [hDn] at hW
      simp only [Bool.false_eq_true, if_false] at hW
      subst hW
      have hs := hstep.get _ _ k o ho m b (fun t ht => by
        rw [hbt t]
        unfold look
        cases hq : (dstOf l.toArray).idxOf? (some t) with
        | none => rfl
        | some j =>
          rw [hq] at ht
          simp only [List.contains_iff_mem] at ht
          exact hx j (hdep j ht))
      rw [Nat.zero_add] at hs
      refine Oper.wp_mono ?_ hs
      rintro a' w' ⟨rfl, m', hw'⟩
      refine ⟨ev k, rfl, fun i hi => ?_, m', ?_⟩
      · by_cases e : i = k
        · subst e; simp
        · rw [upd_ne _ _ e] at hi ⊢; exact hx i hi
      · rw [hw']
        by_cases e : k = n
        · subst e; simp
        · rw [if_neg e, upd_ne _ _ (fun h => e h.symm), hDn]; simp
    have aux : ∀ (r : List Oper) (s : Nat), (∀ k, r[k]? = l[s + k]?) → AllOps (fun i o => ∀ D x W (b : Act), TabI w ev S n D x W → D i = false → (∀ j ∈ deps o, D j = true) → (∀ j, D j = true → ∀ q ∈ depsAt l.toArray j, D q = true) → (∀ t : Nat, b.tmps[t]?.getD undef = look (dstOf l.toArray) x a t) → o.wp P b W (StepPost (TabI w ev S n) D x i b o.dst) NoQ) s r := by
      intro r
      induction r with
      | nil => intro s _; trivial
      | cons o r ih =>
        intro s hr
        refine ⟨key s o (by have := hr 0; simpa using this.symm), ih (s + 1) (fun k => ?_)⟩
        have := hr (k + 1)
        rw [List.getElem?_cons_succ] at this
        rw [this]; congr 1; omega
    exact aux l 0 (fun k => by rw [Nat.zero_add])
  · intro D x W hI hall
    obtain ⟨hx, m, hW⟩ := hI
    have hDn := hall n (by omega)
    rw [hDn] at hW
    simp only [if_true] at hW
    subst hW
    have : putAll (dstOf l.toArray) 0 x a = putAll (dstOf l.toArray) 0 ev a := putAll_congr _ _ _ _ _ (fun j _ h2 => hx j (hall j (by simpa [dstOf] using h2)))
    rw [this]
    exact hend m
variable {w : World} {ev : Nat → Value} {S : World → World} {n i m : Nat} {b : Act} {o : Oper}
theorem tab_run (hi : i ≠ n) (v : Value) (hv : ev i = v) (h : (execOp b.eval o).run P (w.drewN m) = .ok (.value v) (w.drewN m)) : o.wp P b (w.drewN m) (TabPost w ev S n i b o.dst) NoQ := by
  unfold Oper.wp; rw [h]; exact ⟨by rw [hv], m, by rw [if_neg hi]⟩
theorem tab_store (v : Value) (hv : ev n = v) (W : World) (hW : W = S (w.drewN m)) (h : (execOp b.eval o).run P (w.drewN m) = .ok .skip W) (hu : v = undef) : o.wp P b (w.drewN m) (TabPost w ev S n n b o.dst) NoQ := by
  unfold Oper.wp; rw [h]; exact ⟨by rw [hv, hu], m, by rw [if_pos rfl]; exact hW⟩
theorem tab_call (hi : i ≠ n) (v : Value) (hv : ev i = v) {f : FuncId} {args : Array Value} (h : (execOp b.eval o).run P (w.drewN m) = .ok (.enter f args) (w.drewN m)) (hc : Calls P f args (w.drewN m) fun e w' => ∃ q, e = .returned v ∧ w' = (w.drewN m).drewN q) : o.wp P b (w.drewN m) (TabPost w ev S n i b o.dst) NoQ := by
  unfold Oper.wp; rw [h]
  simp only [Oper.upon]
  refine hc.mono ?_
  rintro e w' ⟨q, rfl, rfl⟩
  exact ⟨by rw [hv], m + q, by rw [if_neg hi]; simp [World.drewN, Nat.add_assoc]⟩
end
end Go.Proofs.YteigjfdgijaifaaDoor

namespace Go.Proofs.YteigjfdgijaifaaDoor
open Go.RowKit
set_option linter.unusedVariables false

section
variable {P : Program} {ops : Array Oper} {Q : Exit → Act → World → Prop}
/-- the guard of an operation is not met (it is the other truth value, or it was not asked itself) -/
def gNo (ops : Array Oper) (o : Oper) (b : Act) : Prop := match o.guard with
  | none => False
  | some (j, want) => ∃ d : Nat, (ops[j]?.bind (·.dst)) = some d ∧ (b.tmps[d]?.getD undef = .bool (!want) ∨ b.tmps[d]?.getD undef = undef)
theorem gNo.wanted {o : Oper} {b : Act} (h : gNo ops o b) : Region.wanted o (yielded ops b.tmps) = false := by
  unfold gNo at h
  unfold Region.wanted
  cases hg : o.guard with
  | none => rw [hg] at h; exact absurd h id
  | some p =>
    obtain ⟨j, want⟩ := p
    rw [hg] at h
    obtain ⟨d, hd, hv⟩ := h
    show (yielded ops b.tmps j == some want) = false
    unfold yielded
    rw [hd, Option.bind_some]
    rcases hv with hv | hv
    · cases ht : b.tmps[d]? with
      | none => simp
      | some u =>
        rw [ht] at hv
        simp only [Option.getD_some] at hv
        rw [hv]
        cases want <;> simp
    · cases ht : b.tmps[d]? with
      | none => simp
      | some u =>
        rw [ht] at hv
        simp only [Option.getD_some] at hv
        rw [hv]
        simp [undef]
theorem wpOp_skip {i : Nat} {o : Oper} {a : Act} {w : World} {K : Act → World → Prop} (h : ops[i]? = some o) (hg : Region.wanted o (yielded ops a.tmps) = false) (hw : K (a.put o.dst undef) w) : wpOp P ops Q i K a w := by
  unfold wpOp
  simp only [h, hg]
  exact hw
/-- the region by facts, guards met or not -/
theorem wp_region_facts2X {id : Nat} {l : List Oper} {a : Act} {w : World} (hm : P.follows .mixedOrders = true) (hd : apartD (dstOf l.toArray) = true) (hb : backD l.toArray = true) (hn : inD a.tmps.size (dstOf l.toArray) = true)
    (I : (Nat → Bool) → (Nat → Value) → World → Prop)
    (h0 : I (fun _ => false) (fun j => slotV a ((dstOf l.toArray).getD (j - 0) none)) w.drew)
    (hstep : AllOps (fun i o => ∀ D x w (b : Act), I D x w → D i = false → (∀ j ∈ deps o, D j = true) → (∀ j, D j = true → ∀ k ∈ depsAt l.toArray j, D k = true) → (∀ t : Nat, b.tmps[t]?.getD undef = look (dstOf l.toArray) x a t) → (gOk l.toArray o b ∧ o.wp P b w (StepPost I D x i b o.dst) NoQ) ∨ (gNo l.toArray o b ∧ I (upd D i true) (upd x i undef) w)) 0 l)
    (hend : ∀ D x w, I D x w → (∀ i, i < l.length → D i = true) → Q .normal (putAll (dstOf l.toArray) 0 x a) w) : (Code.region id l.toArray true).wp P Q a w := by
  refine wp_region_facts2 hm hd hb I h0 (fun i o ho D x w hI hD hdep hcl => ?_) (fun D x w hI h => hend D x w hI (by simpa using h))
  have ho' : l[i]? = some o := by simpa using ho
  have := hstep.get _ _ i o ho' D x w (putAll (dstOf l.toArray) 0 x a)
  rw [Nat.zero_add] at this
  have h2 := this hI hD hdep hcl (fun t => by
    rw [← Array.getD_eq_getD_getElem?, putAll_look _ _ _ _ _ hd hn]
    unfold look
    simp only [Nat.zero_add])
  rcases h2 with ⟨h2, h3⟩ | ⟨h2, h3⟩
  · exact wpOp_met ho h2.wanted (wp_noQ h3)
  · exact wpOp_skip ho h2.wanted ⟨undef, rfl, h3⟩
end
section
variable {P : Program} {Q : Exit → Act → World → Prop}
/-- behind one operation -/
def PhxPost (T : World → World → Prop) (w : World) (Φ : Nat → Value → World → Prop) (i : Nat) (b : Act) (d : Option Tmp) (a' : Act) (w' : World) : Prop := ∃ v, a' = b.put d v ∧ T w w' ∧ Φ i v w'
def PhxI (T : World → World → Prop) (w0 : World) (n : Nat) (Φ : Nat → Value → World → Prop) (R : (Nat → Value) → World → Prop) (x0 : Nat → Value) (D : Nat → Bool) (x : Nat → Value) (w : World) : Prop := if D n = true then R x w else T w0 w ∧ (∀ i, D i = true → Φ i (x i) w) ∧ ∀ i, D i = false → x i = x0 i
/-- n: the store at the end (n = the number of operations: there is none) -/
theorem wp_region_phx {id : Nat} {l : List Oper} {a : Act} {w0 : World} (T : World → World → Prop) (Tr : ∀ {a b c}, T a b → T b c → T a c) (T0 : T w0 w0.drew) (n : Nat) (hm : P.follows .mixedOrders = true) (hd : apartD (dstOf l.toArray) = true) (hb : backD l.toArray = true) (hn : inD a.tmps.size (dstOf l.toArray) = true)
    (hlen : l.length = n + 1) (hneed : needB l.toArray n = true)
    (Φ : Nat → Value → World → Prop) (hΦ : ∀ i v w w', Φ i v w → T w w' → Φ i v w') (R : (Nat → Value) → World → Prop)
    (hstep : AllOps (fun i o => ∀ (x : Nat → Value) w (b : Act), T w0 w → (∀ j ∈ deps o, Φ j (x j) w) → (∀ j, i ∈ depsAt l.toArray j → x j = slotV a ((dstOf l.toArray).getD (j - 0) none)) → (∀ t : Nat, b.tmps[t]?.getD undef = look (dstOf l.toArray) x a t) →
      (i < n → (gOk l.toArray o b ∧ o.wp P b w (PhxPost T w Φ i b o.dst) NoQ) ∨ (gNo l.toArray o b ∧ Φ i undef w)) ∧ (i = n → (∀ j, j < n → Φ j (x j) w) → gOk l.toArray o b ∧ o.wp P b w (fun a' w' => ∃ v, a' = b.put o.dst v ∧ R (upd x n v) w') NoQ)) 0 l)
    (hend : ∀ (x : Nat → Value) w, R x w → Q .normal (putAll (dstOf l.toArray) 0 x a) w) : (Code.region id l.toArray true).wp P Q a w0 := by
  refine wp_region_facts2X hm hd hb hn (PhxI T w0 n Φ R (fun j => slotV a ((dstOf l.toArray).getD (j - 0) none))) ?_ ?_ ?_
  · unfold PhxI
    rw [if_neg (by simp)]
    exact ⟨T0, fun i h => Bool.noConfusion h, fun _ _ => rfl⟩
  · have key : ∀ k o, l[k]? = some o → ∀ D x W (b : Act), PhxI T w0 n Φ R (fun j => slotV a ((dstOf l.toArray).getD (j - 0) none)) D x W → D k = false → (∀ j ∈ deps o, D j = true) → (∀ j, D j = true → ∀ q ∈ depsAt l.toArray j, D q = true) → (∀ t : Nat, b.tmps[t]?.getD undef = look (dstOf l.toArray) x a t) → (gOk l.toArray o b ∧ o.wp P b W (StepPost (PhxI T w0 n Φ R (fun j => slotV a ((dstOf l.toArray).getD (j - 0) none))) D x k b o.dst) NoQ) ∨ (gNo l.toArray o b ∧ PhxI T w0 n Φ R (fun j => slotV a ((dstOf l.toArray).getD (j - 0) none)) (upd D k true) (upd x k undef) W) := by
      intro k o ho D x W b hI hD hdep hcl hbt
      have hk : k ≤ n := by have := (List.getElem?_eq_some_iff.1 ho).1; omega
      have hDn : D n = false := by
        cases h : D n with
        | false => rfl
        | true => have := need_all hneed hcl h _ k hk (Nat.le_refl _); rw [this] at hD; cases hD
      unfold PhxI at hI
      rw [hDn, if_neg (by simp)] at hI
      have hs := hstep.get _ _ k o ho x W b hI.1 (fun j hj => hI.2.1 j (hdep j hj)) (fun j hj => hI.2.2 j (by
        cases h : D j with
        | false => rfl
        | true =>
          rw [Nat.zero_add] at hj
          have := hcl j h k hj
          rw [hD] at this; cases this)) hbt
      rw [Nat.zero_add] at hs
      have hnext : ∀ v w', T W w' → Φ k v w' → k ≠ n → PhxI T w0 n Φ R (fun j => slotV a ((dstOf l.toArray).getD (j - 0) none)) (upd D k true) (upd x k v) w' := by
        intro v w' hb' hv hkn
        unfold PhxI
        rw [upd_ne _ _ (show n ≠ k from fun e => hkn e.symm), hDn, if_neg (by simp)]
        refine ⟨Tr hI.1 hb', fun i hi => ?_, fun i hi => ?_⟩
        · by_cases e : i = k
          · subst e; rw [upd_same]; exact hv
          · rw [upd_ne _ _ e] at hi ⊢
            exact hΦ i (x i) W w' (hI.2.1 i hi) hb'
        · by_cases e : i = k
          · subst e; rw [upd_same] at hi; cases hi
          · rw [upd_ne _ _ e] at hi ⊢
            exact hI.2.2 i hi
      by_cases hkn : k = n
      · subst hkn
        have hDall : ∀ j, j < k → D j = true := by
          intro j hj
          have hcl' : ∀ j, upd D k true j = true → ∀ q ∈ depsAt l.toArray j, upd D k true q = true := by
            intro j hj q hq
            by_cases eq : q = k
            · subst eq; rw [upd_same]
            rw [upd_ne _ _ eq]
            by_cases ej : j = k
            · subst ej
              have : depsAt l.toArray j = deps o := by
                have h1 : l.toArray[j]? = some o := by simpa using ho
                simp [depsAt, h1]
              rw [this] at hq
              exact hdep q hq
            · rw [upd_ne _ _ ej] at hj
              exact hcl j hj q hq
          have := need_all hneed hcl' (upd_same _ _ _) _ j (by omega) (Nat.le_refl _)
          rwa [upd_ne _ _ (show j ≠ k by omega)] at this
        obtain ⟨g1, g2⟩ := hs.2 rfl (fun j hj => hI.2.1 j (hDall j hj))
        refine .inl ⟨g1, Oper.wp_mono ?_ g2⟩
        rintro a' w' ⟨v, rfl, hR⟩
        refine ⟨v, rfl, ?_⟩
        unfold PhxI
        rw [if_pos (upd_same _ _ _)]
        exact hR
      · rcases hs.1 (by omega) with ⟨g1, g2⟩ | ⟨g1, g2⟩
        · refine .inl ⟨g1, Oper.wp_mono ?_ g2⟩
          rintro a' w' ⟨v, rfl, hb', hv⟩
          exact ⟨v, rfl, hnext v w' hb' hv hkn⟩
        · refine .inr ⟨g1, ?_⟩
          unfold PhxI
          rw [upd_ne _ _ (show n ≠ k from fun e => hkn e.symm), hDn, if_neg (by simp)]
          refine ⟨hI.1, fun i hi => ?_, fun i hi => ?_⟩
          · by_cases e : i = k
            · subst e; rw [upd_same]; exact g2
            · rw [upd_ne _ _ e] at hi ⊢
              exact hI.2.1 i hi
          · by_cases e : i = k
            · subst e; rw [upd_same] at hi; cases hi
            · rw [upd_ne _ _ e] at hi ⊢
              exact hI.2.2 i hi
    have aux : ∀ (r : List Oper) (s : Nat), (∀ k, r[k]? = l[s + k]?) → AllOps (fun i o => ∀ D x W (b : Act), PhxI T w0 n Φ R (fun j => slotV a ((dstOf l.toArray).getD (j - 0) none)) D x W → D i = false → (∀ j ∈ deps o, D j = true) → (∀ j, D j = true → ∀ q ∈ depsAt l.toArray j, D q = true) → (∀ t : Nat, b.tmps[t]?.getD undef = look (dstOf l.toArray) x a t) → (gOk l.toArray o b ∧ o.wp P b W (StepPost (PhxI T w0 n Φ R (fun j => slotV a ((dstOf l.toArray).getD (j - 0) none))) D x i b o.dst) NoQ) ∨ (gNo l.toArray o b ∧ PhxI T w0 n Φ R (fun j => slotV a ((dstOf l.toArray).getD (j - 0) none)) (upd D i true) (upd x i undef) W)) s r := by
      intro r
      induction r with
      | nil => intro s _; trivial
      | cons o r ih =>
        intro s hr
        refine ⟨key s o (by have := hr 0; simpa using this.symm), ih (s + 1) (fun k => ?_)⟩
        have := hr (k + 1)
        rw [List.getElem?_cons_succ] at this
        rw [this]; congr 1; omega
    exact aux l 0 (fun k => by rw [Nat.zero_add])
  · intro D x W hI hall
    have hDn := hall n (by omega)
    unfold PhxI at hI
    rw [if_pos hDn] at hI
    exact hend x W hI
/-- the same without a store at the end -/
theorem wp_region_phy {id : Nat} {l : List Oper} {a : Act} {w0 : World} (T : World → World → Prop) (Tr : ∀ {a b c}, T a b → T b c → T a c) (T0 : T w0 w0.drew) (hm : P.follows .mixedOrders = true) (hd : apartD (dstOf l.toArray) = true) (hb : backD l.toArray = true) (hn : inD a.tmps.size (dstOf l.toArray) = true)
    (Φ : Nat → Value → World → Prop) (hΦ : ∀ i v w w', Φ i v w → T w w' → Φ i v w')
    (hstep : AllOps (fun i o => ∀ (x : Nat → Value) w (b : Act), T w0 w → (∀ j ∈ deps o, Φ j (x j) w) → (∀ j, i ∈ depsAt l.toArray j → x j = slotV a ((dstOf l.toArray).getD (j - 0) none)) → (∀ t : Nat, b.tmps[t]?.getD undef = look (dstOf l.toArray) x a t) →
      (gOk l.toArray o b ∧ o.wp P b w (PhxPost T w Φ i b o.dst) NoQ) ∨ (gNo l.toArray o b ∧ Φ i undef w)) 0 l)
    (hend : ∀ (x : Nat → Value) w, T w0 w → (∀ i, i < l.length → Φ i (x i) w) → Q .normal (putAll (dstOf l.toArray) 0 x a) w) : (Code.region id l.toArray true).wp P Q a w0 := by
  refine wp_region_facts2X hm hd hb hn (fun D x w => T w0 w ∧ (∀ i, D i = true → Φ i (x i) w) ∧ ∀ i, D i = false → x i = (fun j => slotV a ((dstOf l.toArray).getD (j - 0) none)) i) ⟨T0, fun i h => Bool.noConfusion h, fun _ _ => rfl⟩ ?_ ?_
  · have key : ∀ k o, l[k]? = some o → ∀ D x W (b : Act), (T w0 W ∧ (∀ i, D i = true → Φ i (x i) W) ∧ ∀ i, D i = false → x i = (fun j => slotV a ((dstOf l.toArray).getD (j - 0) none)) i) → D k = false → (∀ j ∈ deps o, D j = true) → (∀ j, D j = true → ∀ q ∈ depsAt l.toArray j, D q = true) → (∀ t : Nat, b.tmps[t]?.getD undef = look (dstOf l.toArray) x a t) → (gOk l.toArray o b ∧ o.wp P b W (StepPost (fun D x w => T w0 w ∧ (∀ i, D i = true → Φ i (x i) w) ∧ ∀ i, D i = false → x i = (fun j => slotV a ((dstOf l.toArray).getD (j - 0) none)) i) D x k b o.dst) NoQ) ∨ (gNo l.toArray o b ∧ (T w0 W ∧ (∀ i, upd D k true i = true → Φ i (upd x k undef i) W) ∧ ∀ i, upd D k true i = false → upd x k undef i = (fun j => slotV a ((dstOf l.toArray).getD (j - 0) none)) i)) := by
      intro k o ho D x W b hI hD hdep hcl hbt
      have hs := hstep.get _ _ k o ho x W b hI.1 (fun j hj => hI.2.1 j (hdep j hj)) (fun j hj => hI.2.2 j (by
        cases h : D j with
        | false => rfl
        | true =>
          rw [Nat.zero_add] at hj
          have := hcl j h k hj
          rw [hD] at this; cases this)) hbt
      rw [Nat.zero_add] at hs
      rcases hs with ⟨g1, g2⟩ | ⟨g1, g2⟩
      · refine .inl ⟨g1, Oper.wp_mono ?_ g2⟩
        rintro a' w' ⟨v, rfl, hb', hv⟩
        refine ⟨v, rfl, Tr hI.1 hb', fun i hi => ?_, fun i hi => ?_⟩
        · by_cases e : i = k
          · subst e; rw [upd_same]; exact hv
          · rw [upd_ne _ _ e] at hi ⊢
            exact hΦ i (x i) W w' (hI.2.1 i hi) hb'
        · by_cases e : i = k
          · subst e; rw [upd_same] at hi; cases hi
          · rw [upd_ne _ _ e] at hi ⊢
            exact hI.2.2 i hi
      · refine .inr ⟨g1, hI.1, fun i hi => ?_, fun i hi => ?_⟩
        · by_cases e : i = k
          · subst e; rw [upd_same]; exact g2
          · rw [upd_ne _ _ e] at hi ⊢
            exact hI.2.1 i hi
        · by_cases e : i = k
          · subst e; rw [upd_same] at hi; cases hi
          · rw [upd_ne _ _ e] at hi ⊢
            exact hI.2.2 i hi
    have aux : ∀ (r : List Oper) (s : Nat), (∀ k, r[k]? = l[s + k]?) → AllOps (fun k o => ∀ D x W (b : Act), (T w0 W ∧ (∀ i, D i = true → Φ i (x i) W) ∧ ∀ i, D i = false → x i = (fun j => slotV a ((dstOf l.toArray).getD (j - 0) none)) i) → D k = false → (∀ j ∈ deps o, D j = true) → (∀ j, D j = true → ∀ q ∈ depsAt l.toArray j, D q = true) → (∀ t : Nat, b.tmps[t]?.getD undef = look (dstOf l.toArray) x a t) → (gOk l.toArray o b ∧ o.wp P b W (StepPost (fun D x w => T w0 w ∧ (∀ i, D i = true → Φ i (x i) w) ∧ ∀ i, D i = false → x i = (fun j => slotV a ((dstOf l.toArray).getD (j - 0) none)) i) D x k b o.dst) NoQ) ∨ (gNo l.toArray o b ∧ (T w0 W ∧ (∀ i, upd D k true i = true → Φ i (upd x k undef i) W) ∧ ∀ i, upd D k true i = false → upd x k undef i = (fun j => slotV a ((dstOf l.toArray).getD (j - 0) none)) i))) s r := by
      intro r
      induction r with
      | nil => intro s _; trivial
      | cons o r ih =>
        intro s hr
        refine ⟨key s o (by have := hr 0; simpa using this.symm), ih (s + 1) (fun k => ?_)⟩
        have := hr (k + 1)
        rw [List.getElem?_cons_succ] at this
        rw [this]; congr 1; omega
    exact aux l 0 (fun k => by rw [Nat.zero_add])
  · intro D x W hI hall
    exact hend x W hI.1 (fun i hi => hI.2.1 i (hall i hi))
variable {w : World} {T : World → World → Prop} {Φ : Nat → Value → World → Prop} {i : Nat} {b : Act} {o : Oper}
theorem phx_run (v : Value) (h : (execOp b.eval o).run P w = .ok (.value v) w) (hT : T w w) (hv : Φ i v w) : o.wp P b w (PhxPost T w Φ i b o.dst) NoQ := by
  unfold Oper.wp; rw [h]; exact ⟨v, rfl, hT, hv⟩
theorem phx_make (v : Value) (w' : World) (h : (execOp b.eval o).run P w = .ok (.value v) w') (hb : T w w') (hv : Φ i v w') : o.wp P b w (PhxPost T w Φ i b o.dst) NoQ := by
  unfold Oper.wp; rw [h]; exact ⟨v, rfl, hb, hv⟩
theorem phx_call {f : FuncId} {args : Array Value} (h : (execOp b.eval o).run P w = .ok (.enter f args) w) (hc : Calls P f args w fun e w' => ∃ v, e = .returned v ∧ T w w' ∧ Φ i v w') : o.wp P b w (PhxPost T w Φ i b o.dst) NoQ := by
  unfold Oper.wp; rw [h]
  simp only [Oper.upon]
  refine hc.mono ?_
  rintro e w' ⟨v, rfl, hb, hv⟩
  exact ⟨v, rfl, hb, hv⟩
theorem phx_st {R : World → Prop} (W : World) (h : (execOp b.eval o).run P w = .ok .skip W) (ho : o.dst = none) (hR : R W) : o.wp P b w (fun a' w' => ∃ v, a' = b.put o.dst v ∧ R w') NoQ := by
  unfold Oper.wp; rw [h]; exact ⟨undef, by rw [ho], hR⟩
end
end Go.Proofs.YteigjfdgijaifaaDoor

namespace Go.Proofs.YteigjfdgijaifaaDoor
open Go.RowKit
set_option linter.unusedVariables false

/-- where an entry of a translation comes from -/
theorem trl_from {X : List Int} {c j : Nat} (hc : c < X.length) (hj : j < X.length) : ∃ i, i < X.length ∧ j = (i + c) % X.length := by
  by_cases h : c ≤ j
  · exact ⟨j - c, by omega, by rw [mod_small (by omega) hc, if_pos (by omega)]; omega⟩
  · exact ⟨j + X.length - c, by omega, by rw [mod_small (by omega) hc, if_neg (by omega)]; omega⟩
theorem trl_pm {X : List Int} {c r : Nat} (h : Pm X) (hc : c < X.length) (hr : r < X.length) : Pm (trl c r X) := by
  refine Pm.mk_inj (fun x hx => ?_) fun i j hi hj e => ?_
  · obtain ⟨j, hj, rfl⟩ := List.getElem_of_mem hx
    rw [trl_length] at hj ⊢
    obtain ⟨i, hi, rfl⟩ := trl_from hc hj
    rw [← gt_get (by rw [trl_length]; exact hj), trl_vd_gt h hc hr hi]
    have := h.gt_rng hi
    split <;> omega
  · rw [trl_length] at hi hj
    obtain ⟨i', hi', ei⟩ := trl_from hc hi
    obtain ⟨j', hj', ej⟩ := trl_from hc hj
    rw [← gt_get (by rw [trl_length]; exact hi), ← gt_get (by rw [trl_length]; exact hj), ei, ej, trl_vd_gt h hc hr hi', trl_vd_gt h hc hr hj'] at e
    have a := h.gt_rng hi'
    have b := h.gt_rng hj'
    have e3 : gt X i' = gt X j' := by split at e <;> split at e <;> omega
    rw [gt_get hi', gt_get hj'] at e3
    rw [ei, ej, h.inj hi' hj' e3]
theorem trl_vd {X O : List Int} {c r : Nat} (h : Vd X O) (hc : c < X.length) (hr : r < X.length) : Vd (trl c r X) (trl c r O) := by
  have hl := h.len
  refine ⟨by rw [trl_length]; exact h.two, by rw [trl_length]; exact h.most, by rw [trl_length, trl_length]; exact hl, trl_pm h.pX hc hr, trl_pm h.pO (by omega) (by omega), fun k h1 h2 e => ?_⟩
  rw [trl_length] at h1
  obtain ⟨i, hi, ei⟩ := trl_from hc h1
  rw [← gt_get (by rw [trl_length]; exact h1), ← gt_get h2, ei, trl_vd_gt h.pX hc hr hi] at e
  have e2 := trl_vd_gt (X := O) (c := c) (r := r) (i := i) h.pO (by omega) (by omega) (by omega)
  rw [← hl] at e2
  rw [e2] at e
  have a := h.pX.gt_rng hi
  have b := h.pO.gt_rng (show i < O.length by omega)
  rw [← hl] at b
  have e3 : gt X i = gt O i := by split at e <;> split at e <;> omega
  rw [gt_get hi, gt_get (by omega)] at e3
  exact h.ne i hi (by omega) e3
theorem lst_cand (X O : List Int) : ∀ k, ∃ i, i ≤ k ∧ lstK X O k = cand X O i
  | 0 => ⟨0, by omega, rfl⟩
  | k + 1 => by
    obtain ⟨i, h1, h2⟩ := lst_cand X O k
    rw [lstK]
    split
    · exact ⟨k + 1, by omega, rfl⟩
    · exact ⟨i, by omega, h2⟩
theorem lstM_trl {g : Gd} (h : Vd g.1 g.2) : ∃ c r, c < g.1.length ∧ r < g.1.length ∧ lstM g = (trl c r g.1, trl c r g.2) := by
  have h2 := h.two
  obtain ⟨i, h1, e⟩ := lst_cand g.1 g.2 (g.1.length - 1)
  exact ⟨_, _, Nat.mod_lt _ (by omega), Nat.mod_lt _ (by omega), e⟩
theorem lstM_vd {g : Gd} (h : Vd g.1 g.2) : Vd (lstM g).1 (lstM g).2 := by
  obtain ⟨c, r, hc, hr, e⟩ := lstM_trl h
  rw [e]; exact trl_vd h hc hr
theorem lstM_len {g : Gd} (h : Vd g.1 g.2) : (lstM g).1.length = g.1.length := by
  obtain ⟨c, r, hc, hr, e⟩ := lstM_trl h
  rw [e]; exact trl_length _ _ _
end Go.Proofs.YteigjfdgijaifaaDoor

namespace Go.Proofs.YteigjfdgijaifaaDoor
open Go.RowKit
set_option linter.unusedVariables false
theorem end_look {Q : Exit → Act → World → Prop} {ds : List (Option Tmp)} {x : Nat → Value} {a : Act} {w : World} (t k : Nat) {v : Value} (hd : apartD ds = true) (hn : inD a.tmps.size ds = true) (hk : ds.idxOf? (some t) = some k) (hv : x k = v)
    (h : ∀ T : Array Value, T[t]?.getD undef = v → Q .normal ⟨T, a.defers⟩ w) : Q .normal (putAll ds 0 x a) w := by
  have h1 := putAll_look ds 0 x a t hd hn
  rw [hk] at h1
  simp only [Nat.zero_add, Array.getD_eq_getD_getElem?] at h1
  have h2 : ∀ (ds : List (Option Tmp)) (i : Nat) (a : Act), (putAll ds i x a).defers = a.defers := by
    intro ds
    induction ds with
    | nil => intro i a; rfl
    | cons d ds ih => intro i a; rw [putAll, ih]; cases d <;> rfl
  have h3 := h2 ds 0 a
  revert h1 h3
  generalize putAll ds 0 x a = b
  intro h1 h3
  obtain ⟨T, D⟩ := b
  simp only at h1 h3
  subst h3
  exact h T (h1.trans hv)
end Go.Proofs.YteigjfdgijaifaaDoor

namespace Go.Proofs.YteigjfdgijaifaaDoor
open Go.RowKit
set_option linter.unusedVariables false

theorem cat_g (x y : List UInt8) : (⟨x.toArray⟩ ++ ⟨y.toArray⟩ : ByteArray) = ⟨(x ++ y).toArray⟩ := ByteArray.mk_append_mk x y
set_option maxHeartbeats 4000000 in
set_option maxRecDepth 100000 in
theorem format_any (vx vo : Value) (X O : List Int) (w : World) (hX : Ints w vx X) (hO : Ints w vo O) (hv : Vd X O) (ht : Tb w) :
    Calls Tryd.prog 31 #[.agg #[vx, vo]] w fun e w' => e = .returned (.tuple #[.string ⟨(fmG (X, O)).toArray⟩, .int .i64 0]) ∧ Below w.heap.size w w' := by
  have h40 := hv.most
  have hle := hv.len
  have bX : ∀ x ∈ X, 0 ≤ x ∧ x ≤ 1000 := fun x hx => by have := hv.pX.1 x hx; omega
  have bO : ∀ x ∈ O, 0 ≤ x ∧ x ≤ 1000 := fun x hx => by have := hv.pO.1 x hx; omega
  have HLX := Lib.hid (fun W (hb : Below w.heap.size w W) => list_any vx X W (hX.below hb) (by omega) bX (ht.below hb))
  have HLO := Lib.hid (fun W (hb : Below w.heap.size w W) => list_any vo O W (hO.below hb) (by omega) bO (ht.below hb))
  have HVD := Lib.hid (fun W (hb : Below w.heap.size w W) => valid_any vx vo X O W (hX.below hb) (hO.below hb) (by omega) (by omega))
  rw [(validB_iff X O).2 hv] at HVD
  have lX := fmR_len bX X.length (Nat.le_refl _)
  have lO := fmR_len bO O.length (Nat.le_refl _)
  obtain ⟨A, c, rfl, -, -⟩ := hX
  obtain ⟨A', c', rfl, -, -⟩ := hO
  obtain ⟨tx, htx⟩ : ∃ t, t = fmR X X.length := ⟨_, rfl⟩
  obtain ⟨ty, hty⟩ : ∃ t, t = fmR O O.length := ⟨_, rfl⟩
  have HG := Lib.hid (show fmG (X, O) = tx ++ ([32, 47, 32] ++ ty) by unfold fmG; rw [htx, hty])
  rw [← htx] at HLX lX
  rw [← hty] at HLO lO
  have ltx : tx.length ≤ 2000 := by omega
  have lty : ty.length ≤ 2000 := by omega
  obtain ⟨n, hn⟩ : ∃ n, n = X.length := ⟨_, rfl⟩
  obtain ⟨m, hm⟩ : ∃ m, m = O.length := ⟨_, rfl⟩
  rw [← hn] at HLX HVD ⊢
  rw [← hm] at HLO HVD ⊢
  have hal := (Below.refl w.heap.size w).alloc (Nat.le_refl _) (.cells #[.slice A n c, .slice A' m c'] 26)
  have HB := Lib.hid hal
  have HQ := Lib.hid (show Arr (w.alloc (.cells #[.slice A n c, .slice A' m c'] 26)) w.heap.size 26 [.slice A n c, .slice A' m c'] from Arr.new w _ [_, _])
  clear hal htx hty hn hm bX bO ht hv h40 hle lX lO
  go_enter Tryd.func31, Tryd.ntmps31
  go_upto_region 1 with fail
  obtain ⟨w3, hw3⟩ : ∃ W', W' = w.alloc (.cells #[.slice A n c, .slice A' m c'] 26) := ⟨_, rfl⟩
  rw [← hw3] at HB HQ ⊢
  obtain ⟨gB, hgB⟩ : ∃ g, g = w.heap.size := ⟨_, rfl⟩
  rw [← hgB] at HQ ⊢
  clear hw3 hgB
  have y0 := HQ.out.cell 0
  have y1 := HQ.out.cell 1
  have HVE := Lib.hid (HVD.out w3 HB.out)
  go_upto_region 3 with (go_at_call 15; refine HVE.out.mono ?_; rintro e w4 ⟨rfl, hb4⟩)
  have HQ4 := Lib.hid (HQ.out.below hb4 HQ.out.lt)
  have HB4 := Lib.hid (HB.out.trans (hb4.mono HB.out.size))
  clear y0 y1 hb4 HVE HVD
  obtain ⟨t1, ht1⟩ : ∃ t, t = tx ++ [32, 47, 32] := ⟨_, rfl⟩
  obtain ⟨t2, ht2⟩ : ∃ t, t = t1 ++ ty := ⟨_, rfl⟩
  have C1 := Lib.hid (show (⟨tx.toArray⟩ ++ ⟨#[32, 47, 32]⟩ : ByteArray) = ⟨t1.toArray⟩ by rw [ht1]; exact cat_g tx [32, 47, 32])
  have C2 := Lib.hid (show (⟨t1.toArray⟩ ++ ⟨ty.toArray⟩ : ByteArray) = ⟨t2.toArray⟩ by rw [ht2]; exact cat_g t1 ty)
  have L1 := Lib.hid (show ¬ 9223372036854775807 < tx.length + 3 by omega)
  have L2 := Lib.hid (show ¬ 9223372036854775807 < t1.length + ty.length by rw [ht1, List.length_append]; simp; omega)
  have HG2 := Lib.hid (show fmG (X, O) = t2 by rw [HG.out, ht2, ht1, List.append_assoc])
  clear ht1 ht2 HG
  refine wp_region_phy (fun a b => Below a.heap.size a b) (fun h k => h.trans (k.mono h.size)) ((Below.refl _ _).drew) (by kernel_rfl) (by kernel_rfl) (by kernel_rfl) (by kernel_rfl) (phiT (fun i => ([some (.pointer (some ⟨gB, 0, none⟩)), some (.slice A n c), some (.string ⟨tx.toArray⟩), some (.string ⟨t1.toArray⟩), some (.pointer (some ⟨gB, 1, none⟩)), some ((.slice A' m c')), some (.string ⟨ty.toArray⟩), some (.string ⟨t2.toArray⟩), some (.string ⟨t2.toArray⟩), some (.int .i64 0)] : List (Option Value)).getD i none) (fun i v w => True)) (fun i v w w' h hb => ?_) ⟨?_, ?_, ?_, ?_, ?_, ?_, ?_, ?_, ?_, ?_, trivial⟩ ?_
  · unfold phiT at h ⊢
    split
    · next u hu => rw [hu] at h; exact h
    · next hu =>
      rw [hu] at h
      exact True.intro
  · intro x w1 bA hT hdep hold hb
    refine .inl ⟨trivial, ?_⟩
    have e1 : bA.tmps[1]?.getD undef = .pointer (some ⟨gB, 0, none⟩) := hb 1
    refine phx_run (.pointer (some ⟨gB, 0, none⟩)) ?_ (Below.refl _ _) rfl
    clear hb hdep hold
    go_simp
  · intro x w1 bA hT hdep hold hb
    refine .inl ⟨trivial, ?_⟩
    have e7 : bA.tmps[7]?.getD undef = .pointer (some ⟨gB, 0, none⟩) := (hb 7).trans (hdep 0 (by decide))
    have cc := HQ4.out.below hT HQ4.out.lt
    have cc0 := cc.cell 0
    have cc1 := cc.cell 1
    clear cc
    refine phx_run (.slice A n c) ?_ (Below.refl _ _) rfl
    clear hb hdep hold
    go_simp
  · intro x w1 bA hT hdep hold hb
    refine .inl ⟨trivial, ?_⟩
    have e8 : bA.tmps[8]?.getD undef = .slice A n c := (hb 8).trans (hdep 1 (by decide))
    refine phx_call ?_ ((HLX.out w1 (HB4.out.trans (hT.mono HB4.out.size))).mono fun e w' h => ⟨_, h.1, h.2, rfl⟩)
    clear hb hdep hold
    go_simp
  · intro x w1 bA hT hdep hold hb
    refine .inl ⟨trivial, ?_⟩
    have e9 : bA.tmps[9]?.getD undef = .string ⟨tx.toArray⟩ := (hb 9).trans (hdep 2 (by decide))
    have lz := L1.out
    have hc := C1.out
    refine phx_run (.string ⟨t1.toArray⟩) ?_ (Below.refl _ _) rfl
    clear hb hdep hold
    go_simp
  · intro x w1 bA hT hdep hold hb
    refine .inl ⟨trivial, ?_⟩
    have e1 : bA.tmps[1]?.getD undef = .pointer (some ⟨gB, 0, none⟩) := hb 1
    refine phx_run (.pointer (some ⟨gB, 1, none⟩)) ?_ (Below.refl _ _) rfl
    clear hb hdep hold
    go_simp
  · intro x w1 bA hT hdep hold hb
    refine .inl ⟨trivial, ?_⟩
    have e11 : bA.tmps[11]?.getD undef = .pointer (some ⟨gB, 1, none⟩) := (hb 11).trans (hdep 4 (by decide))
    have cc := HQ4.out.below hT HQ4.out.lt
    have cc0 := cc.cell 0
    have cc1 := cc.cell 1
    clear cc
    refine phx_run ((.slice A' m c')) ?_ (Below.refl _ _) rfl
    clear hb hdep hold
    go_simp
  · intro x w1 bA hT hdep hold hb
    refine .inl ⟨trivial, ?_⟩
    have e12 : bA.tmps[12]?.getD undef = (.slice A' m c') := (hb 12).trans (hdep 5 (by decide))
    refine phx_call ?_ ((HLO.out w1 (HB4.out.trans (hT.mono HB4.out.size))).mono fun e w' h => ⟨_, h.1, h.2, rfl⟩)
    clear hb hdep hold
    go_simp
  · intro x w1 bA hT hdep hold hb
    refine .inl ⟨trivial, ?_⟩
    have e10 : bA.tmps[10]?.getD undef = .string ⟨t1.toArray⟩ := (hb 10).trans (hdep 3 (by decide))
    have e13 : bA.tmps[13]?.getD undef = .string ⟨ty.toArray⟩ := (hb 13).trans (hdep 6 (by decide))
    have lz := L2.out
    have hc := C2.out
    refine phx_run (.string ⟨t2.toArray⟩) ?_ (Below.refl _ _) rfl
    clear hb hdep hold
    go_simp
  · intro x w1 bA hT hdep hold hb
    refine .inl ⟨trivial, ?_⟩
    have e14 : bA.tmps[14]?.getD undef = .string ⟨t2.toArray⟩ := (hb 14).trans (hdep 7 (by decide))
    refine phx_run (.string ⟨t2.toArray⟩) ?_ (Below.refl _ _) rfl
    clear hb hdep hold
    go_simp
  · intro x w1 bA hT hdep hold hb
    refine .inl ⟨trivial, ?_⟩
    refine phx_run (.int .i64 0) ?_ (Below.refl _ _) rfl
    clear hb hdep hold
    go_simp
  intro x w1 hT hall
  have x0e : x 0 = .pointer (some ⟨gB, 0, none⟩) := hall 0 (by decide)
  have x1e : x 1 = .slice A n c := hall 1 (by decide)
  have x2e : x 2 = .string ⟨tx.toArray⟩ := hall 2 (by decide)
  have x3e : x 3 = .string ⟨t1.toArray⟩ := hall 3 (by decide)
  have x4e : x 4 = .pointer (some ⟨gB, 1, none⟩) := hall 4 (by decide)
  have x5e : x 5 = (.slice A' m c') := hall 5 (by decide)
  have x6e : x 6 = .string ⟨ty.toArray⟩ := hall 6 (by decide)
  have x7e : x 7 = .string ⟨t2.toArray⟩ := hall 7 (by decide)
  have x8e : x 8 = .string ⟨t2.toArray⟩ := hall 8 (by decide)
  have x9e : x 9 = .int .i64 0 := hall 9 (by decide)
  simp only [putAll, dstOf, Act.put, List.map_cons, List.map_nil, List.setIfInBounds_toArray, List.set_cons_succ, List.set_cons_zero, Nat.reduceAdd, x0e, x1e, x2e, x3e, x4e, x5e, x6e, x7e, x8e, x9e]
  clear x0e x1e x2e x3e x4e x5e x6e x7e x8e x9e hall
  have HB5 := Lib.hid (HB4.out.trans (hT.mono HB4.out.size))
  clear hT
  go_wp2_with fail
  go_ret2
  exact ⟨by rw [HG2.out]; rfl, HB5.out⟩
/-- a grid in memory -/
def GdI (w : World) (v : Value) (g : Gd) : Prop := ∃ A n c B m d, v = .agg #[.slice A n c, .slice B m d] ∧ Ints w (.slice A n c) g.1 ∧ Ints w (.slice B m d) g.2
theorem GdI.below {w w' : World} {v : Value} {g : Gd} (h : GdI w v g) (hb : Below w.heap.size w w') : GdI w' v g := by
  obtain ⟨A, n, c, B, m, d, e, h1, h2⟩ := h
  exact ⟨A, n, c, B, m, d, e, h1.below hb, h2.below hb⟩
theorem info_gr : (Tryd.prog.info? 26).map (fun i => (i.zero, i.size, i.bytes)) = some (some (.agg #[.slice none 0 0, .slice none 0 0]), 2, 48) := by kernel_rfl
/-- a write to a block without integers -/
theorem Ints.away {w : World} {v : Value} {xs : List Int} {g i : Nat} {t : TypeId} {cs : List Value} (h : Ints w v xs) (hg : Arr w g t cs) (hn : ∀ (j : Nat) (x : Int), cs[j]? ≠ some (Value.int .i64 x)) (u : Value) : Ints (w.setCell ⟨g, i, none⟩ u) v xs := by
  obtain ⟨A, c, e, hc, hx⟩ := h
  refine ⟨A, c, e, hc, fun k x hk => ?_⟩
  obtain ⟨b, o, hA, hcell⟩ := hx k x hk
  refine ⟨b, o, hA, ?_⟩
  have hne : b ≠ g := fun eb => by
    subst eb
    have := hg.cell (o + k)
    rw [hcell] at this
    exact hn _ _ this.symm
  exact (World.cell?_of_block (Below.heap_setCell w ⟨g, i, none⟩ u b hne)).trans hcell
set_option maxHeartbeats 4000000 in
set_option maxRecDepth 100000 in
theorem class_any (v : Value) (g : Gd) (w : World) (h : GdI w v g) (hv : Vd g.1 g.2) (ht : Tb w) :
    Calls Tryd.prog 32 #[v] w fun e w' => ∃ u, e = .returned (.tuple #[u, .string ⟨(fmG (lstM g)).toArray⟩]) ∧ GdI w' u (lstM g) ∧ Below w.heap.size w w' := by
  obtain ⟨X, O⟩ := g
  obtain ⟨A, n, c, B, m, d, rfl, hX, hO⟩ := h
  have HLC := Lib.hid (fun W (hb : Below w.heap.size w W) => least_any (.slice A n c) (.slice B m d) X O W (hX.below hb) (hO.below hb) hv)
  have HT := Lib.hid (fun W (hb : Below w.heap.size w W) => ht.below hb)
  have HVD := Lib.hid (lstM_vd hv)
  have HLM := Lib.hid (fun p (h : IsL X O X.length p) => lstM_of (Nat.lt_of_lt_of_le (by decide) hv.two) h)
  have hal := ((Below.refl w.heap.size w).alloc (Nat.le_refl _) (.cells #[.slice A n c, .slice B m d] 26)).alloc (by simp) (.cells #[.slice none 0 0, .slice none 0 0] 26)
  have HB := Lib.hid hal
  have HQ := Lib.hid (show Arr ((w.alloc (.cells #[.slice A n c, .slice B m d] 26)).alloc (.cells #[.slice none 0 0, .slice none 0 0] 26)) w.heap.size 26 [.slice A n c, .slice B m d] from (Arr.new w _ [_, _]).alloc _)
  have HR := Lib.hid (show Arr ((w.alloc (.cells #[.slice A n c, .slice B m d] 26)).alloc (.cells #[.slice none 0 0, .slice none 0 0] 26)) (w.heap.size + 1) 26 [.slice none 0 0, .slice none 0 0] from Arr.newAt (w.alloc _) _ [_, _] _ (by simp))
  clear hX hO hv ht hal
  go_enter Tryd.func32, Tryd.ntmps32
  go_upto_region 1 with fail
  obtain ⟨w3, hw3⟩ : ∃ W', W' = (w.alloc (.cells #[.slice A n c, .slice B m d] 26)).alloc (.cells #[.slice none 0 0, .slice none 0 0] 26) := ⟨_, rfl⟩
  rw [← hw3] at HB HQ HR ⊢
  clear hw3
  have y0 := HQ.out.cell 0
  have y1 := HQ.out.cell 1
  have HLD := Lib.hid (HLC.out w3 HB.out)
  go_wp2_with fail
  refine HLD.out.mono ?_
  rintro e w4 ⟨p, A0, c0, A1, c1, rfl, hrd, hil, hb4⟩
  obtain ⟨r1, r2⟩ := hrd
  have hpe := HLM.out p hil
  subst hpe
  have HR4 := Lib.hid (HR.out.below hb4 HR.out.lt)
  have HB4 := Lib.hid (HB.out.trans (hb4.mono HB.out.size))
  have hal := (Below.refl w4.heap.size w4).alloc (Nat.le_refl _) (.cells #[.slice A0 X.length c0, .slice A1 X.length c1] 26)
  have HQ5 := Lib.hid (show Arr (w4.alloc (.cells #[.slice A0 X.length c0, .slice A1 X.length c1] 26)) w4.heap.size 26 [.slice A0 X.length c0, .slice A1 X.length c1] from Arr.new w4 _ [_, _])
  have HR5 := Lib.hid (HR4.out.below hal HR4.out.lt)
  have HB5 := Lib.hid (HB4.out.trans (hal.mono HB4.out.size))
  have HX5 := Lib.hid (r1.below hal)
  have HO5 := Lib.hid (r2.below hal)
  clear r1 r2 hil hb4 hal y0 y1 HLD HLC HLM
  go_upto_region 2 with fail
  obtain ⟨w5, hw5⟩ : ∃ W', W' = w4.alloc (.cells #[.slice A0 X.length c0, .slice A1 X.length c1] 26) := ⟨_, rfl⟩
  rw [← hw5] at HQ5 HR5 HB5 HX5 HO5 ⊢
  obtain ⟨gL, hgL⟩ : ∃ g, g = w4.heap.size := ⟨_, rfl⟩
  rw [← hgL] at HQ5 ⊢
  clear hw5 hgL
  have y0 := HQ5.out.cell 0
  have y1 := HQ5.out.cell 1
  have HFD := Lib.hid (format_any (.slice A0 X.length c0) (.slice A1 X.length c1) (lstM (X, O)).1 (lstM (X, O)).2 w5 HX5.out HO5.out HVD.out (HT.out w5 HB5.out))
  go_wp2_with fail
  refine HFD.out.mono ?_
  rintro e w6 ⟨rfl, hb6⟩
  have qL := HQ5.out.below hb6 HQ5.out.lt
  have qR := HR5.out.below hb6 HR5.out.lt
  have HX6 := Lib.hid (HX5.out.below hb6)
  have HO6 := Lib.hid (HO5.out.below hb6)
  have HB6 := Lib.hid (HB5.out.trans (hb6.mono HB5.out.size))
  clear y0 y1 HFD hb6
  have y0 := qL.cell 0
  have y1 := qL.cell 1
  have z0 := qR.cell 0
  have z1 := qR.cell 1
  have f0 := qR.frozen 0
  have f1 := qR.frozen 1
  have HRZ := Lib.hid ((qR.set 0 (.slice A0 X.length c0)).set 1 (.slice A1 X.length c1))
  have HXZ := Lib.hid qR
  clear qL qR
  go_wp2_with fail
  refine bodyPost_ret (v := .tuple #[.agg #[.slice A0 X.length c0, .slice A1 X.length c1], .string ⟨(fmG (lstM (X, O))).toArray⟩]) (results_ct Tryd.results32 _ _ (w.heap.size + 1) 26 _ _ rfl HRZ.out Tryd.underlying26 rfl info_grid) rfl ?_
  refine ⟨_, rfl, ⟨A0, X.length, c0, A1, X.length, c1, rfl, ?_, ?_⟩, bset2 HB6.out (by omega)⟩
  · exact (HX6.out.away HXZ.out (fun j x => by rcases j with _ | _ | j <;> simp) _).away (HXZ.out.set 0 _) (fun j x => by rcases j with _ | _ | j <;> simp) _
  · exact (HO6.out.away HXZ.out (fun j x => by rcases j with _ | _ | j <;> simp) _).away (HXZ.out.set 0 _) (fun j x => by rcases j with _ | _ | j <;> simp) _
end Go.Proofs.YteigjfdgijaifaaDoor
