/- A region that draws its order, by facts: one obligation for each operation, whatever the order. -/
import Derived.Test.YtlbihllmpbhhcaaDoorZBase
import Derived.Orders
namespace Go.Proofs.YtlbihllmpbhhcaaDoor
set_option linter.unusedVariables false
open Go.RowKit

def upd {α : Type} (x : Nat → α) (i : Nat) (v : α) : Nat → α := fun j => if j = i then v else x j
@[simp] theorem upd_same {α : Type} (x : Nat → α) (i : Nat) (v : α) : upd x i v i = v := by simp [upd]
theorem upd_ne {α : Type} (x : Nat → α) {i j : Nat} (v : α) (h : j ≠ i) : upd x i v j = x j := by simp [upd, h]

/-- what the operations of a region have put so far -/
def putAll : List (Option Tmp) → Nat → (Nat → Value) → Act → Act
  | [], _, _, a => a
  | d :: ds, i, x, a => putAll ds (i + 1) x (a.put d (x i))
def dstOf (ops : Array Oper) : List (Option Tmp) := ops.toList.map (·.dst)
/-- no temporary is written twice -/
def apartD : List (Option Tmp) → Bool
  | [] => true
  | d :: ds => (match d with | none => true | some t => !ds.contains (some t)) && apartD ds

theorem putAll_put : ∀ (ds : List (Option Tmp)) (i : Nat) (x : Nat → Value) (a : Act) (d : Option Tmp) (v : Value), (∀ t, d = some t → some t ∉ ds) → putAll ds i x (a.put d v) = (putAll ds i x a).put d v := by
  intro ds
  induction ds with
  | nil => intro i x a d v _; rfl
  | cons e ds ih =>
    intro i x a d v h
    rw [putAll, putAll, ← ih _ _ _ _ _ (fun t ht hm => h t ht (List.mem_cons_of_mem _ hm))]
    congr 1
    refine Act.put_comm a v (x i) (fun t ht he => ?_)
    exact h t ht (by rw [he]; exact List.mem_cons_self)
theorem putAll_congr : ∀ (ds : List (Option Tmp)) (i : Nat) (x y : Nat → Value) (a : Act), (∀ j, i ≤ j → j < i + ds.length → x j = y j) → putAll ds i x a = putAll ds i y a := by
  intro ds
  induction ds with
  | nil => intro i x y a _; rfl
  | cons e ds ih =>
    intro i x y a h
    rw [putAll, putAll, h i (Nat.le_refl _) (by simp), ih (i + 1) x y _ (fun j h1 h2 => h j (by omega) (by simp at h2 ⊢; omega))]
theorem put_put (a : Act) (d : Option Tmp) (u v : Value) : (a.put d u).put d v = a.put d v := by
  cases d <;> simp [Act.put]
theorem putAll_upd : ∀ (ds : List (Option Tmp)) (i : Nat) (x : Nat → Value) (a : Act) (k : Nat) (v : Value), apartD ds = true → k < ds.length → (putAll ds i x a).put (ds.getD k none) v = putAll ds i (upd x (i + k) v) a := by
  intro ds
  induction ds with
  | nil => intro i x a k v _ h; simp at h
  | cons e ds ih =>
    intro i x a k v hd hk
    simp only [apartD, Bool.and_eq_true] at hd
    rw [putAll, putAll]
    cases k with
    | zero =>
      simp only [Nat.add_zero, upd_same, List.getD_cons_zero]
      rw [← putAll_put]
      · rw [put_put]
        exact putAll_congr _ _ _ _ _ (fun j h1 h2 => (upd_ne x v (by omega)).symm)
      · intro t ht
        rw [ht] at hd
        have := hd.1
        simpa using this
    | succ k =>
      rw [List.getD_cons_succ, ih _ _ _ _ _ hd.2 (by simpa using hk), upd_ne x v (by omega)]
      congr 2
      omega
def slotV (a : Act) (d : Option Tmp) : Value := match d with | some t => a.tmps.getD t undef | none => undef
theorem put_get (a : Act) (d : Option Tmp) : a.put d (slotV a d) = a := by
  cases d with
  | none => rfl
  | some t =>
    simp only [Act.put, slotV]
    congr 1
    apply Array.ext
    · simp
    · intro j h1 h2
      simp only [Array.getElem_setIfInBounds h2]
      split
      · rename_i h; subst h; simp [h2]
      · rfl
theorem putAll_start : ∀ (ds : List (Option Tmp)) (i : Nat) (a : Act), apartD ds = true → putAll ds i (fun j => slotV a (ds.getD (j - i) none)) a = a := by
  intro ds
  induction ds with
  | nil => intro i a _; rfl
  | cons e ds ih =>
    intro i a hd
    simp only [apartD, Bool.and_eq_true] at hd
    rw [putAll]
    have h0 : slotV a ((e :: ds).getD (i - i) none) = slotV a e := by simp
    simp only [h0, put_get]
    refine Eq.trans (putAll_congr _ _ _ _ _ (fun j h1 h2 => ?_)) (ih (i + 1) a hd.2)
    rw [show j - i = (j - (i + 1)) + 1 from by omega, List.getD_cons_succ]

/-- each edge leads back -/
def backD (ops : Array Oper) : Bool := (List.range ops.size).all fun i => ((ops[i]?).map (·.after.all fun e => !Region.binds .any e || decide (e.on < i))).getD true

def deps (o : Oper) : List Nat := (o.after.toList.filter fun e => Region.binds .any e).map (·.on)
def depsAt (ops : Array Oper) (j : Nat) : List Nat := match ops[j]? with | some o => deps o | none => []

section
variable {P : Program} {ops : Array Oper} {Q : Exit → Act → World → Prop}
theorem ready_nil (hb : backD ops = true) {listed : Array Bool} (hs : listed.size = ops.size) (h : Region.ready .any ops listed = []) : ∀ i, i < ops.size → listed.getD i true = true := by
  intro i
  induction i using Nat.strongRecOn with
  | _ i ih =>
    intro hi
    cases hl : listed.getD i true with
    | true => rfl
    | false =>
      exfalso
      have : i ∈ Region.ready .any ops listed := by
        rw [mem_ready]
        refine ⟨hl, ops[i], by simp [hi], fun e he hbe => ?_⟩
        have hlt : e.on < i := by
          simp only [backD, List.all_eq_true, List.mem_range] at hb
          have := hb i hi
          simp only [hi, Array.getElem?_eq_getElem, Option.map_some, Option.getD_some, Array.all_eq_true_iff_forall_mem] at this
          have h2 := this e he
          rw [hbe] at h2
          simpa using h2
        have := ih e.on hlt (by omega)
        have hlt' : e.on < listed.size := by omega
        simpa [Array.getD, hlt'] using this
      rw [h] at this
      cases this
def countF (l : Array Bool) : Nat := l.toList.countP (· == false)
theorem countF_list : ∀ (m : List Bool) (i : Nat), m[i]? = some false → (m.set i true).countP (· == false) + 1 = m.countP (· == false) := by
  intro m
  induction m with
  | nil => intro i h; simp at h
  | cons b m ih =>
    intro i h
    cases i with
    | zero => simp at h; simp [h]
    | succ i =>
      have := ih i (by simpa using h)
      simp only [List.set_cons_succ, List.countP_cons]
      omega
theorem countF_set {l : Array Bool} {i : Nat} (h : l.getD i true = false) : countF (l.setIfInBounds i true) + 1 = countF l := by
  have hi : i < l.size := by
    rcases Nat.lt_or_ge i l.size with h' | h'
    · exact h'
    · simp [Array.getD, Nat.not_lt.2 h'] at h
  unfold countF
  rw [Array.toList_setIfInBounds]
  refine countF_list _ _ ?_
  simpa [Array.getD, hi] using h

theorem wpAny_inv (hb : backD ops = true) (I : Array Bool → Act → World → Prop)
    (hstep : ∀ l a w i, l.size = ops.size → I l a w → i ∈ Region.ready .any ops l → wpOp P ops Q i (I (l.setIfInBounds i true)) a w)
    (hend : ∀ l a w, l.size = ops.size → I l a w → (∀ i, i < ops.size → l.getD i true = true) → Q .normal a w) :
    ∀ (fuel : Nat) (l : Array Bool) (a : Act) (w : World), l.size = ops.size → countF l ≤ fuel → I l a w → wpAny P .any ops Q fuel l a w := by
  intro fuel
  induction fuel with
  | zero =>
    intro l a w hs hc h
    have hr : Region.ready .any ops l = [] := by
      cases hr : Region.ready .any ops l with
      | nil => rfl
      | cons i r =>
        have : i ∈ Region.ready .any ops l := by rw [hr]; exact List.mem_cons_self
        have := countF_set (mem_ready.1 this).1
        omega
    exact ⟨hr, hend l a w hs h (ready_nil hb hs hr)⟩
  | succ fuel ih =>
    intro l a w hs hc h
    refine ⟨fun hr => hend l a w hs h (ready_nil hb hs hr), fun i hi => ?_⟩
    refine wpOp_mono (fun a' w' h' => ih _ a' w' (by simpa using hs) ?_ h') (hstep l a w i hs h hi)
    have := countF_set (mem_ready.1 hi).1
    omega

/-- The region by facts. 'x i' is the value of operation i, 'D i' says that it has come up. -/
theorem wp_region_facts {id : Nat} {a : Act} {w : World} (hm : P.follows .mixedOrders = true) (hd : apartD (dstOf ops) = true) (hb : backD ops = true)
    (I : (Nat → Bool) → (Nat → Value) → World → Prop)
    (h0 : ∀ x, I (fun _ => false) x w.drew)
    (hstep : ∀ i o, ops[i]? = some o → ∀ D x w, I D x w → D i = false → (∀ j ∈ deps o, D j = true) → (∀ j, D j = true → ∀ k ∈ depsAt ops j, D k = true) → wpOp P ops Q i (fun a' w' => ∃ v, a' = (putAll (dstOf ops) 0 x a).put o.dst v ∧ I (upd D i true) (upd x i v) w') (putAll (dstOf ops) 0 x a) w)
    (hend : ∀ D x w, I D x w → (∀ i, i < ops.size → D i = true) → Q .normal (putAll (dstOf ops) 0 x a) w) : (Code.region id ops true).wp P Q a w := by
  refine wp_region_any hm (wpAny_inv hb (fun l a' w' => ∃ x, a' = putAll (dstOf ops) 0 x a ∧ (∀ j, l.getD j false = true → ∀ k ∈ depsAt ops j, l.getD k false = true) ∧ I (fun j => l.getD j false) x w') ?_ ?_ _ _ _ _ (by simp) ?_ ?_)
  · rintro l a' w' i hs ⟨x, rfl, hcl, hI⟩ hi
    obtain ⟨hun, o, ho, hdep⟩ := mem_ready.1 hi
    have hlt : i < ops.size := (Array.getElem?_eq_some_iff.1 ho).1
    have hdi : (dstOf ops).getD i none = o.dst := by
      have : ops[i] = o := by simpa [hlt] using ho
      simp [dstOf, hlt, this]
    have hdp : ∀ j ∈ deps o, l.getD j false = true := by
      intro j hj
      simp only [deps, List.mem_map, List.mem_filter] at hj
      obtain ⟨e, ⟨he, hbe⟩, rfl⟩ := hj
      exact hdep e (by simpa using he) hbe
    refine wpOp_mono ?_ (hstep i o ho (fun j => l.getD j false) x w' hI (by have h' : i < l.size := by omega
                                                                            simpa [Array.getD, h'] using hun) hdp hcl)
    · rintro a'' w'' ⟨v, rfl, hI'⟩
      refine ⟨upd x i v, ?_, ?_, ?_⟩
      · rw [← hdi, putAll_upd _ _ _ _ _ _ hd (by simpa [dstOf] using hlt), Nat.zero_add]
      · intro j hj k hk
        by_cases e : k = i
        · subst e
          have h' : k < l.size := by omega
          simp [Array.getD, h']
        rw [getD_set_ne _ (Ne.symm e)]
        by_cases ej : j = i
        · subst ej
          simp only [depsAt, ho] at hk
          exact hdp k hk
        · rw [getD_set_ne _ (Ne.symm ej)] at hj
          exact hcl j hj k hk
      · have : (fun j => (l.setIfInBounds i true).getD j false) = upd (fun j => l.getD j false) i true := by
          funext j
          by_cases e : j = i
          · subst e
            have h' : j < l.size := by omega
            simp [upd, Array.getD, h']
          · rw [upd_ne _ _ e, getD_set_ne _ (Ne.symm e)]
        rw [this]
        exact hI'
  · rintro l a' w' hs ⟨x, rfl, _, hI⟩ hall
    refine hend _ x w' hI (fun i hi => ?_)
    have := hall i hi
    cases hl : l.getD i false with
    | true => rfl
    | false => 
      rcases Nat.lt_or_ge i l.size with h' | h'
      · simp [Array.getD, h'] at this hl; rw [this] at hl; cases hl
      · omega
  · exact Nat.le_trans List.countP_le_length (by simp)
  · refine ⟨_, (putAll_start _ 0 a hd).symm, fun j hj => ?_, ?_⟩
    · by_cases h : j < ops.size <;> simp [Array.getD, h] at hj
    have : (fun j => (Array.replicate ops.size false).getD j false) = fun _ => false := by
      funext j
      by_cases h : j < ops.size <;> simp [Array.getD, h]
    rw [this]
    exact h0 _

def AllOps (Φ : Nat → Oper → Prop) : Nat → List Oper → Prop
  | _, [] => True
  | i, o :: os => Φ i o ∧ AllOps Φ (i + 1) os
theorem AllOps.get {Φ : Nat → Oper → Prop} : ∀ (l : List Oper) (i : Nat), AllOps Φ i l → ∀ k o, l[k]? = some o → Φ (i + k) o := by
  intro l
  induction l with
  | nil => intro i _ k o h; simp at h
  | cons q l ih =>
    intro i h k o ho
    cases k with
    | zero => simp at ho; subst ho; exact h.1
    | succ k => have := ih (i + 1) h.2 k o (by simpa using ho); rw [show i + (k + 1) = i + 1 + k from by omega]; exact this
theorem wpOp_plain {i : Nat} {o : Oper} {a : Act} {w : World} {K : Act → World → Prop} (h : ops[i]? = some o) (hg : o.guard = none) (hw : o.wp P a w K Q) : wpOp P ops Q i K a w := by
  unfold wpOp
  simp only [h, Region.wanted, hg, if_true]
  exact .inl hw
def NoQ : Exit → Act → World → Prop := fun _ _ _ => False
theorem wp_noQ {o : Oper} {a : Act} {w : World} {K : Act → World → Prop} (h : o.wp P a w K NoQ) : o.wp P a w K Q := by
  unfold Oper.wp at *
  generalize (execOp a.eval o).run P w = r at *
  cases r with
  | ok n w' =>
    cases n <;> simp only [Oper.upon] at h ⊢ <;>
      first
        | exact h
        | exact Calls.mono h (fun e w'' he => by cases e <;> first | exact he | exact he.elim | (obtain ⟨_, _, hf⟩ := he; exact hf.elim))
  | halt x w' => cases x <;> simp only [Oper.upon] at h ⊢ <;> first | exact h | exact h.elim

/-- what slot t holds -/
def look (ds : List (Option Tmp)) (x : Nat → Value) (a : Act) (t : Tmp) : Value :=
  match ds.idxOf? (some t) with
  | some i => x i
  | none => a.tmps.getD t undef
theorem getD_put (a : Act) (d t : Tmp) (v : Value) (hd : d < a.tmps.size) : (a.put (some d) v).tmps.getD t undef = if d = t then v else a.tmps.getD t undef := by
  simp only [Act.put, Array.getD_eq_getD_getElem?, Array.getElem?_setIfInBounds]
  by_cases h : d = t
  · subst h; simp [hd]
  · simp [h]
theorem size_put (a : Act) (d : Option Tmp) (v : Value) : (a.put d v).tmps.size = a.tmps.size := by cases d <;> simp [Act.put]
def inD (n : Nat) (ds : List (Option Tmp)) : Bool := ds.all fun d => match d with | some t => decide (t < n) | none => true
theorem putAll_look : ∀ (ds : List (Option Tmp)) (i : Nat) (x : Nat → Value) (a : Act) (t : Tmp), apartD ds = true → inD a.tmps.size ds = true →
    (putAll ds i x a).tmps.getD t undef = match ds.idxOf? (some t) with | some k => x (i + k) | none => a.tmps.getD t undef := by
  intro ds
  induction ds with
  | nil => intro i x a t _ _; rfl
  | cons e ds ih =>
    intro i x a t hd hn
    simp only [apartD, Bool.and_eq_true] at hd
    simp only [inD, List.all_cons, Bool.and_eq_true] at hn
    rw [putAll, ih _ _ _ _ hd.2 (by rw [size_put]; exact hn.2), List.idxOf?_cons]
    by_cases he : e = some t
    · subst he
      have hnm : ds.idxOf? (some t) = none := by
        rw [List.idxOf?_eq_none_iff]
        have := hd.1
        simpa using this
      simp only [hnm, beq_self_eq_true, if_true, Nat.add_zero]
      rw [getD_put _ _ _ _ (by simpa using hn.1), if_pos rfl]
    · have hb : (e == some t) = false := by simpa using he
      rw [hb]
      simp only [Bool.false_eq_true, if_false]
      cases hk : ds.idxOf? (some t) with
      | some k => simp only [Option.map_some]; congr 1; omega
      | none =>
        simp only [Option.map_none]
        cases e with
        | none => rfl
        | some d =>
          rw [getD_put _ _ _ _ (by simpa using hn.1), if_neg (fun h => he (by rw [h]))]

/-- behind one operation -/
def StepPost (I : (Nat → Bool) → (Nat → Value) → World → Prop) (D : Nat → Bool) (x : Nat → Value) (i : Nat) (b : Act) (d : Option Tmp) (a' : Act) (w' : World) : Prop := ∃ v, a' = b.put d v ∧ I (upd D i true) (upd x i v) w'
theorem StepPost.mk' {I : (Nat → Bool) → (Nat → Value) → World → Prop} {D : Nat → Bool} {x : Nat → Value} {i : Nat} {b : Act} {d : Option Tmp} {w' : World} {v : Value} (h : I (upd D i true) (upd x i v) w') : StepPost I D x i b d (b.put d v) w' := ⟨v, rfl, h⟩

/-- the region by facts, no operation guarded -/
theorem wp_region_factsU {id : Nat} {l : List Oper} {a : Act} {w : World} (hm : P.follows .mixedOrders = true) (hd : apartD (dstOf l.toArray) = true) (hb : backD l.toArray = true) (hg : l.all (fun o => o.guard.isNone) = true) (hn : inD a.tmps.size (dstOf l.toArray) = true)
    (I : (Nat → Bool) → (Nat → Value) → World → Prop)
    (h0 : ∀ x, I (fun _ => false) x w.drew)
    (hstep : AllOps (fun i o => ∀ D x w (b : Act), I D x w → D i = false → (∀ j ∈ deps o, D j = true) → (∀ j, D j = true → ∀ k ∈ depsAt l.toArray j, D k = true) → (∀ t : Nat, b.tmps[t]?.getD undef = look (dstOf l.toArray) x a t) → o.wp P b w (StepPost I D x i b o.dst) NoQ) 0 l)
    (hend : ∀ D x w, I D x w → (∀ i, i < l.length → D i = true) → Q .normal (putAll (dstOf l.toArray) 0 x a) w) : (Code.region id l.toArray true).wp P Q a w := by
  refine wp_region_facts hm hd hb I h0 (fun i o ho D x w hI hD hdep hcl => ?_) (fun D x w hI h => hend D x w hI (by simpa using h))
  have ho' : l[i]? = some o := by simpa using ho
  refine wpOp_plain ho ?_ ?_
  · have := List.all_eq_true.1 hg o (List.mem_of_getElem? ho')
    simpa using this
  · have := hstep.get _ _ i o ho' D x w (putAll (dstOf l.toArray) 0 x a)
    rw [Nat.zero_add] at this
    refine wp_noQ (this hI hD hdep hcl (fun t => ?_))
    rw [← Array.getD_eq_getD_getElem?, putAll_look _ _ _ _ _ hd hn]
    unfold look
    simp only [Nat.zero_add]
theorem wp_of_run {I : (Nat → Bool) → (Nat → Value) → World → Prop} {D : Nat → Bool} {x : Nat → Value} {i : Nat} {o : Oper} {b : Act} {w w' : World} (v : Value) (h : (execOp b.eval o).run P w = .ok (.value v) w') (hK : I (upd D i true) (upd x i v) w') : o.wp P b w (StepPost I D x i b o.dst) NoQ := by
  unfold Oper.wp; rw [h]; exact StepPost.mk' hK
theorem wp_of_skip {I : (Nat → Bool) → (Nat → Value) → World → Prop} {D : Nat → Bool} {x : Nat → Value} {i : Nat} {o : Oper} {b : Act} {w w' : World} (h : (execOp b.eval o).run P w = .ok .skip w') (hK : I (upd D i true) (upd x i undef) w') : o.wp P b w (StepPost I D x i b o.dst) NoQ := by
  unfold Oper.wp; rw [h]; exact StepPost.mk' hK
end
end Go.Proofs.YtlbihllmpbhhcaaDoor
