/- A region that draws its order, whose operations read or call quietly, but for a store at its end: each operation is walked once, by a table of values. -/
import Derived.Test.YtlbihllmpbhhcaaGreatDoorFacts
import Derived.Deep.Draws
namespace Go.Proofs.YtlbihllmpbhhcaaGreatDoor
open Go.RowKit
set_option linter.unusedVariables false

/-- every operation before the last is needed by a later one -/
def needB (ops : Array Oper) (n : Nat) : Bool := (List.range n).all fun i => (List.range (n + 1)).any fun j => decide (i < j) && (depsAt ops j).contains i
theorem need_all {ops : Array Oper} {n : Nat} (h : needB ops n = true) {D : Nat → Bool} (hcl : ∀ j, D j = true → ∀ k ∈ depsAt ops j, D k = true) (hn : D n = true) : ∀ q i, i ≤ n → n - i ≤ q → D i = true := by
  intro q
  induction q with
  | zero => intro i h1 h2; obtain rfl : i = n := by omega
            exact hn
  | succ q ih =>
    intro i h1 h2
    by_cases e : i = n
    · rw [e]; exact hn
    · have h3 := List.all_eq_true.1 h i (by simp; omega)
      obtain ⟨j, hj, h4⟩ := List.any_eq_true.1 h3
      simp only [Bool.and_eq_true, decide_eq_true_eq, List.contains_iff_mem] at h4
      simp only [List.mem_range] at hj
      exact hcl j (ih j (by omega) (by omega)) i h4.2

section
variable {P : Program} {Q : Exit → Act → World → Prop}
/-- behind one operation of the table -/
def TabPost (w : World) (ev : Nat → Value) (S : World → World) (n i : Nat) (b : Act) (d : Option Tmp) (a' : Act) (w' : World) : Prop := a' = b.put d (ev i) ∧ ∃ m, w' = if i = n then S (w.drewN m) else w.drewN m
/-- what the frame holds before operation o -/
def Tabs (l : List Oper) (ev : Nat → Value) (a : Act) (o : Oper) (b : Act) : Prop :=
  ∀ t : Nat, (match (dstOf l.toArray).idxOf? (some t) with | some j => (deps o).contains j | none => true) = true → b.tmps[t]?.getD undef = look (dstOf l.toArray) ev a t
def TabI (w : World) (ev : Nat → Value) (S : World → World) (n : Nat) (D : Nat → Bool) (x : Nat → Value) (W : World) : Prop :=
  (∀ i, D i = true → x i = ev i) ∧ ∃ m, W = if D n = true then S (w.drewN m) else w.drewN m
theorem wp_region_table {id : Nat} {l : List Oper} {a : Act} {w : World} (n : Nat) (hm : P.follows .mixedOrders = true) (hd : apartD (dstOf l.toArray) = true) (hb : backD l.toArray = true) (hg : l.all (fun o => o.guard.isNone) = true) (hn : inD a.tmps.size (dstOf l.toArray) = true)
    (hlen : l.length = n + 1) (hneed : needB l.toArray n = true) (ev : Nat → Value) (S : World → World)
    (hstep : AllOps (fun i o => ∀ m (b : Act), Tabs l ev a o b → o.wp P b (w.drewN m) (TabPost w ev S n i b o.dst) NoQ) 0 l)
    (hend : ∀ m, Q .normal (putAll (dstOf l.toArray) 0 ev a) (S (w.drewN m))) : (Code.region id l.toArray true).wp P Q a w := by
  refine wp_region_factsU hm hd hb hg hn (TabI w ev S n) (fun x => ⟨fun i h => Bool.noConfusion h, 1, rfl⟩) ?_ ?_
  · have key : ∀ k o, l[k]? = some o → ∀ D x W (b : Act), TabI w ev S n D x W → D k = false → (∀ j ∈ deps o, D j = true) → (∀ j, D j = true → ∀ q ∈ depsAt l.toArray j, D q = true) → (∀ t : Nat, b.tmps[t]?.getD undef = look (dstOf l.toArray) x a t) → o.wp P b W (StepPost (TabI w ev S n) D x k b o.dst) NoQ := by
      intro k o ho D x W b hI hD hdep hcl hbt
      have hk : k ≤ n := by have := (List.getElem?_eq_some_iff.1 ho).1; omega
      have hDn : D n = false := by
        cases h : D n with
        | false => rfl
        | true => have := need_all hneed hcl h _ k hk (Nat.le_refl _); rw [this] at hD; cases hD
      obtain ⟨hx, m, hW⟩ := hI
      rw [hDn] at hW
      simp only [Bool.false_eq_true, if_false] at hW
      subst hW
      have hs := hstep.get _ _ k o ho m b (fun t ht => by
        rw [hbt t]
        unfold look
        cases hq : (dstOf l.toArray).idxOf? (some t) with
        | none => rfl
        | some j =>
          rw [hq] at ht
          simp only [List.contains_iff_mem] at ht
          exact hx j (hdep j ht))
      rw [Nat.zero_add] at hs
      refine Oper.wp_mono ?_ hs
      rintro a' w' ⟨rfl, m', hw'⟩
      refine ⟨ev k, rfl, fun i hi => ?_, m', ?_⟩
      · by_cases e : i = k
        · subst e; simp
        · rw [upd_ne _ _ e] at hi ⊢; exact hx i hi
      · rw [hw']
        by_cases e : k = n
        · subst e; simp
        · rw [if_neg e, upd_ne _ _ (fun h => e h.symm), hDn]; simp
    have aux : ∀ (r : List Oper) (s : Nat), (∀ k, r[k]? = l[s + k]?) → AllOps (fun i o => ∀ D x W (b : Act), TabI w ev S n D x W → D i = false → (∀ j ∈ deps o, D j = true) → (∀ j, D j = true → ∀ q ∈ depsAt l.toArray j, D q = true) → (∀ t : Nat, b.tmps[t]?.getD undef = look (dstOf l.toArray) x a t) → o.wp P b W (StepPost (TabI w ev S n) D x i b o.dst) NoQ) s r := by
      intro r
      induction r with
      | nil => intro s _; trivial
      | cons o r ih =>
        intro s hr
        refine ⟨key s o (by have := hr 0; simpa using this.symm), ih (s + 1) (fun k => ?_)⟩
        have := hr (k + 1)
        rw [List.getElem?_cons_succ] at this
        rw [this]; congr 1; omega
    exact aux l 0 (fun k => by rw [Nat.zero_add])
  · intro D x W hI hall
    obtain ⟨hx, m, hW⟩ := hI
    have hDn := hall n (by omega)
    rw [hDn] at hW
    simp only [if_true] at hW
    subst hW
    have : putAll (dstOf l.toArray) 0 x a = putAll (dstOf l.toArray) 0 ev a := putAll_congr _ _ _ _ _ (fun j _ h2 => hx j (hall j (by simpa [dstOf] using h2)))
    rw [this]
    exact hend m
variable {w : World} {ev : Nat → Value} {S : World → World} {n i m : Nat} {b : Act} {o : Oper}
theorem tab_run (hi : i ≠ n) (v : Value) (hv : ev i = v) (h : (execOp b.eval o).run P (w.drewN m) = .ok (.value v) (w.drewN m)) : o.wp P b (w.drewN m) (TabPost w ev S n i b o.dst) NoQ := by
  unfold Oper.wp; rw [h]; exact ⟨by rw [hv], m, by rw [if_neg hi]⟩
theorem tab_store (v : Value) (hv : ev n = v) (W : World) (hW : W = S (w.drewN m)) (h : (execOp b.eval o).run P (w.drewN m) = .ok .skip W) (hu : v = undef) : o.wp P b (w.drewN m) (TabPost w ev S n n b o.dst) NoQ := by
  unfold Oper.wp; rw [h]; exact ⟨by rw [hv, hu], m, by rw [if_pos rfl]; exact hW⟩
theorem tab_call (hi : i ≠ n) (v : Value) (hv : ev i = v) {f : FuncId} {args : Array Value} (h : (execOp b.eval o).run P (w.drewN m) = .ok (.enter f args) (w.drewN m)) (hc : Calls P f args (w.drewN m) fun e w' => ∃ q, e = .returned v ∧ w' = (w.drewN m).drewN q) : o.wp P b (w.drewN m) (TabPost w ev S n i b o.dst) NoQ := by
  unfold Oper.wp; rw [h]
  simp only [Oper.upon]
  refine hc.mono ?_
  rintro e w' ⟨q, rfl, rfl⟩
  exact ⟨by rw [hv], m + q, by rw [if_neg hi]; simp [World.drewN, Nat.add_assoc]⟩
end
end Go.Proofs.YtlbihllmpbhhcaaGreatDoor
