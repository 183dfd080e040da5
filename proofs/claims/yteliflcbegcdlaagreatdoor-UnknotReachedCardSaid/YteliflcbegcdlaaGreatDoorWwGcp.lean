/- package unknot: the comparison of grids. -/
import Derived.Test.YteliflcbegcdlaaGreatDoorWwRvm
import Derived.Test.YteliflcbegcdlaaGreatDoorWwRtr
import Derived.Test.YteliflcbegcdlaaGreatDoorWwGrf
import Derived.Shelf.SlSortCmp.WholeK
import Derived.Shelf.SlSortCmp.NoneTotal
import Derived.Deep.CutBlock
import Derived.Outline
namespace Go.Proofs.YteliflcbegcdlaaGreatDoor
open Go.RowKit Go.Shelf Go.Lib Go.Sort
set_option linter.unusedVariables false
/-- only new memory has been made and the tape been drawn from -/
def Grw (w w' : World) : Prop := ∃ q os, w' = Sort.grow (w.drewN q) os
theorem Grw.refl (w : World) : Grw w w := ⟨0, #[], by rw [grow_empty]; rfl⟩
theorem Grw.drew (w : World) : Grw w w.drew := ⟨1, #[], by rw [grow_empty]; rfl⟩
theorem Grw.alloc (w : World) (o : Obj) : Grw w (w.alloc o) := ⟨0, #[o], by rw [alloc_eq_grow]; rfl⟩
theorem Grw.trans {a b c : World} (h : Grw a b) (k : Grw b c) : Grw a c := by
  obtain ⟨q, os, rfl⟩ := h
  obtain ⟨q2, os2, rfl⟩ := k
  refine ⟨q + q2, os ++ os2, ?_⟩
  rw [← grow_grow]
  unfold Sort.grow World.drewN
  simp only [Nat.add_assoc]
theorem Grw.below {w w' : World} (h : Grw w w') : Go.RowKit.Below w.heap.size w w' := by
  obtain ⟨q, os, rfl⟩ := h
  refine ⟨rfl, rfl, rfl, ?_, fun k hk => ?_⟩
  · unfold Sort.grow World.drewN
    simp
  · unfold Sort.grow World.drewN
    show (w.heap ++ os)[k]? = w.heap[k]?
    rw [Array.getElem?_append_left hk]
section
variable {P : Program} {Q : Exit → Act → World → Prop}
/-- behind one operation -/
def PhwPost (T : World → World → Prop) (w : World) (Φ : Nat → Value → World → Prop) (i : Nat) (b : Act) (d : Option Tmp) (a' : Act) (w' : World) : Prop := ∃ v, a' = b.put d v ∧ T w w' ∧ Φ i v w'
def PhwI (T : World → World → Prop) (w0 : World) (Φ : Nat → Value → World → Prop) (x0 : Nat → Value) (D : Nat → Bool) (x : Nat → Value) (w : World) : Prop := T w0 w ∧ (∀ i, D i = true → Φ i (x i) w) ∧ ∀ i, D i = false → x i = x0 i
theorem wp_region_phw (T : World → World → Prop) (T1 : ∀ w, T w w) (Tr : ∀ {a b c}, T a b → T b c → T a c) (T0 : ∀ w, T w w.drew) {id : Nat} {l : List Oper} {a : Act} {w0 : World} (hm : P.follows .mixedOrders = true) (hd : apartD (dstOf l.toArray) = true) (hb : backD l.toArray = true) (hg : l.all (fun o => o.guard.isNone) = true) (hn : inD a.tmps.size (dstOf l.toArray) = true)
    (Φ : Nat → Value → World → Prop) (hΦ : ∀ i v w w', Φ i v w → T w w' → Φ i v w')
    (hstep : AllOps (fun i o => ∀ (x : Nat → Value) w (b : Act), T w0 w → (∀ j ∈ deps o, Φ j (x j) w) → (∀ j, i ∈ depsAt l.toArray j → x j = slotV a ((dstOf l.toArray).getD (j - 0) none)) → (∀ t : Nat, b.tmps[t]?.getD undef = look (dstOf l.toArray) x a t) → o.wp P b w (PhwPost T w Φ i b o.dst) NoQ) 0 l)
    (hend : ∀ (x : Nat → Value) w, T w0 w → (∀ i, i < l.length → Φ i (x i) w) → Q .normal (putAll (dstOf l.toArray) 0 x a) w) : (Code.region id l.toArray true).wp P Q a w0 := by
  refine wp_region_facts2U hm hd hb hg hn (PhwI T w0 Φ (fun j => slotV a ((dstOf l.toArray).getD (j - 0) none))) ⟨T0 _, fun i h => Bool.noConfusion h, fun _ _ => rfl⟩ ?_ ?_
  · have key : ∀ k o, l[k]? = some o → ∀ D x W (b : Act), PhwI T w0 Φ (fun j => slotV a ((dstOf l.toArray).getD (j - 0) none)) D x W → D k = false → (∀ j ∈ deps o, D j = true) → (∀ j, D j = true → ∀ q ∈ depsAt l.toArray j, D q = true) → (∀ t : Nat, b.tmps[t]?.getD undef = look (dstOf l.toArray) x a t) → o.wp P b W (StepPost (PhwI T w0 Φ (fun j => slotV a ((dstOf l.toArray).getD (j - 0) none))) D x k b o.dst) NoQ := by
      intro k o ho D x W b hI hD hdep hcl hbt
      have hs := hstep.get _ _ k o ho x W b hI.1 (fun j hj => hI.2.1 j (hdep j hj)) (fun j hj => hI.2.2 j (by
        cases h : D j with
        | false => rfl
        | true =>
          rw [Nat.zero_add] at hj
          have := hcl j h k hj
          rw [hD] at this; cases this)) hbt
      rw [Nat.zero_add] at hs
      refine Oper.wp_mono ?_ hs
      rintro a' w' ⟨v, rfl, hb', hv⟩
      refine ⟨v, rfl, Tr hI.1 hb', fun i hi => ?_, fun i hi => ?_⟩
      · by_cases e : i = k
        · subst e; rw [upd_same]; exact hv
        · rw [upd_ne _ _ e] at hi ⊢
          exact hΦ i (x i) W w' (hI.2.1 i hi) hb'
      · by_cases e : i = k
        · subst e; rw [upd_same] at hi; cases hi
        · rw [upd_ne _ _ e] at hi ⊢
          exact hI.2.2 i hi
    have aux : ∀ (r : List Oper) (s : Nat), (∀ k, r[k]? = l[s + k]?) → AllOps (fun i o => ∀ D x W (b : Act), PhwI T w0 Φ (fun j => slotV a ((dstOf l.toArray).getD (j - 0) none)) D x W → D i = false → (∀ j ∈ deps o, D j = true) → (∀ j, D j = true → ∀ q ∈ depsAt l.toArray j, D q = true) → (∀ t : Nat, b.tmps[t]?.getD undef = look (dstOf l.toArray) x a t) → o.wp P b W (StepPost (PhwI T w0 Φ (fun j => slotV a ((dstOf l.toArray).getD (j - 0) none))) D x i b o.dst) NoQ) s r := by
      intro r
      induction r with
      | nil => intro s _; trivial
      | cons o r ih =>
        intro s hr
        refine ⟨key s o (by have := hr 0; simpa using this.symm), ih (s + 1) (fun k => ?_)⟩
        have := hr (k + 1)
        rw [List.getElem?_cons_succ] at this
        rw [this]; congr 1; omega
    exact aux l 0 (fun k => by rw [Nat.zero_add])
  · intro D x W hI hall
    exact hend x W hI.1 (fun i hi => hI.2.1 i (hall i hi))
variable {w : World} {Φ : Nat → Value → World → Prop} {i : Nat} {b : Act} {o : Oper}
theorem phw_run {T : World → World → Prop} (T1 : ∀ w, T w w) (v : Value) (h : (execOp b.eval o).run P w = .ok (.value v) w) (hv : Φ i v w) : o.wp P b w (PhwPost T w Φ i b o.dst) NoQ := by
  unfold Oper.wp; rw [h]; exact ⟨v, rfl, T1 _, hv⟩
theorem phw_make {T : World → World → Prop} (v : Value) (w' : World) (h : (execOp b.eval o).run P w = .ok (.value v) w') (hb : T w w') (hv : Φ i v w') : o.wp P b w (PhwPost T w Φ i b o.dst) NoQ := by
  unfold Oper.wp; rw [h]; exact ⟨v, rfl, hb, hv⟩
theorem phw_call {T : World → World → Prop} {f : FuncId} {args : Array Value} (h : (execOp b.eval o).run P w = .ok (.enter f args) w) (hc : Calls P f args w fun e w' => ∃ v, e = .returned v ∧ T w w' ∧ Φ i v w') : o.wp P b w (PhwPost T w Φ i b o.dst) NoQ := by
  unfold Oper.wp; rw [h]
  simp only [Oper.upon]
  refine hc.mono ?_
  rintro e w' ⟨v, rfl, hb, hv⟩
  exact ⟨v, rfl, hb, hv⟩
end
theorem ints_len {w : World} {A : Option Addr} {n c : Nat} {xs : List Int} (h : Ints w (.slice A n c) xs) : n = xs.length := by
  obtain ⟨A0, c0, e, _⟩ := h
  injection e
set_option maxHeartbeats 1000000 in
theorem cor3_any (g : Nat) (a b c : Int) (W : World) (hg : Arr W g 3 [.int .i64 a, .int .i64 b, .int .i64 c]) : Calls Tryz.prog 18 #[.slice (some ⟨g, 0, none⟩) 3 3] W fun e w' => e = .returned (.int .i64 (if a ≠ 0 then a else if b ≠ 0 then b else c)) ∧ w' = W := by
  have c0 := hg.cell 0
  have c1 := hg.cell 1
  have c2 := hg.cell 2
  clear hg
  by_cases h1 : a = 0
  · subst h1
    rw [if_neg (by simp)]
    by_cases h2 : b = 0
    · subst h2
      rw [if_neg (by simp)]
      by_cases h3 : c = 0
      · subst h3
        go_enter Tryz.func18, Tryz.ntmps18
        go_wp2_with fail
        refine wp_loop_rounds 4 ?_
        rw [rounds_succ]; go_wp2_with fail
        rw [rounds_succ]; go_wp2_with fail
        rw [rounds_succ]; go_wp2_with fail
        rw [rounds_succ]; go_wp2_with fail
        go_ret
        exact ⟨rfl, rfl⟩
      · have n3 : (c == 0) = false := beq_eq_false_iff_ne.2 h3
        go_enter Tryz.func18, Tryz.ntmps18
        go_wp2_with fail
        refine wp_loop_rounds 4 ?_
        rw [rounds_succ]; go_wp2_with fail
        rw [rounds_succ]; go_wp2_with fail
        rw [rounds_succ]; go_wp2_with fail
        go_ret
        exact ⟨rfl, rfl⟩
    · have n2 : (b == 0) = false := beq_eq_false_iff_ne.2 h2
      rw [if_pos h2]
      go_enter Tryz.func18, Tryz.ntmps18
      go_wp2_with fail
      refine wp_loop_rounds 4 ?_
      rw [rounds_succ]; go_wp2_with fail
      rw [rounds_succ]; go_wp2_with fail
      go_ret
      exact ⟨rfl, rfl⟩
  · have n1 : (a == 0) = false := beq_eq_false_iff_ne.2 h1
    rw [if_pos h1]
    go_enter Tryz.func18, Tryz.ntmps18
    go_wp2_with fail
    refine wp_loop_rounds 4 ?_
    rw [rounds_succ]; go_wp2_with fail
    go_ret
    exact ⟨rfl, rfl⟩
/-- the comparison -/
def cmpG (a b : Gd) : Int := if cmpI a.1.length b.1.length ≠ 0 then cmpI a.1.length b.1.length else if cmpL a.1 b.1 ≠ 0 then cmpL a.1 b.1 else cmpL a.2 b.2
theorem cmpI_cases (a b : Int) : (a < b ∧ cmpI a b = -1) ∨ (a = b ∧ cmpI a b = 0) ∨ (b < a ∧ cmpI a b = 1) := by
  unfold cmpI
  by_cases h1 : a < b
  · exact .inl ⟨h1, by simp [h1]⟩
  · by_cases h2 : b < a
    · exact .inr (.inr ⟨h2, by simp [h1, h2]⟩)
    · exact .inr (.inl ⟨by omega, by simp [h1, h2]⟩)
theorem cmpG_cases (a b : Gd) : (a.1.length < b.1.length ∧ cmpG a b = -1) ∨ (a.1.length = b.1.length ∧ cmpG a b = cmpP a b) ∨ (b.1.length < a.1.length ∧ cmpG a b = 1) := by
  unfold cmpG
  rcases cmpI_cases a.1.length b.1.length with ⟨h, e⟩ | ⟨h, e⟩ | ⟨h, e⟩
  · exact .inl ⟨by omega, by rw [e]; simp⟩
  · exact .inr (.inl ⟨by omega, by rw [e, if_neg (by simp)]; rfl⟩)
  · exact .inr (.inr ⟨by omega, by rw [e]; simp⟩)
theorem cmpG_anti (a b : Gd) : cmpG b a = - cmpG a b := by
  rcases cmpG_cases a b with ⟨h, e⟩ | ⟨h, e⟩ | ⟨h, e⟩
  · rcases cmpG_cases b a with ⟨h', e'⟩ | ⟨h', e'⟩ | ⟨h', e'⟩
    · omega
    · omega
    · rw [e, e']; rfl
  · rcases cmpG_cases b a with ⟨h', e'⟩ | ⟨h', e'⟩ | ⟨h', e'⟩
    · omega
    · rw [e, e', cmpP_anti]
    · omega
  · rcases cmpG_cases b a with ⟨h', e'⟩ | ⟨h', e'⟩ | ⟨h', e'⟩
    · rw [e, e']
    · omega
    · omega
theorem cmpG_zero {a b : Gd} (h : cmpG a b = 0) : a = b := by
  rcases cmpG_cases a b with ⟨_, e⟩ | ⟨_, e⟩ | ⟨_, e⟩
  · omega
  · exact cmpP_zero _ _ (e.symm.trans h)
  · omega
theorem cmpG_trans {a b c : Gd} (h1 : cmpG a b < 0) (h2 : cmpG b c < 0) : cmpG a c < 0 := by
  rcases cmpG_cases a b with ⟨p, e⟩ | ⟨p, e⟩ | ⟨p, e⟩ <;> rcases cmpG_cases b c with ⟨p', e'⟩ | ⟨p', e'⟩ | ⟨p', e'⟩ <;> rcases cmpG_cases a c with ⟨q, f⟩ | ⟨q, f⟩ | ⟨q, f⟩ <;> try omega
  rw [f]
  exact cmpP_trans _ _ _ (e ▸ h1) (e' ▸ h2)
theorem cmpG_self (a : Gd) : cmpG a a = 0 := by have := cmpG_anti a a; omega
set_option maxHeartbeats 2000000 in
set_option maxRecDepth 100000 in
theorem gcmp_any (p q : GV) (a b : Gd) (W : World) (ha : GvI W p a) (hb : GvI W q b) (l1 : a.1.length ≤ 1000000) (l2 : a.2.length ≤ 1000000) (l3 : b.1.length ≤ 1000000) (l4 : b.2.length ≤ 1000000) :
    Calls Tryz.prog 17 #[.agg #[sv p.1, sv p.2], .agg #[sv q.1, sv q.2]] W fun e w' => e = .returned (.int .i64 (cmpG a b)) ∧ ∃ q os', w' = Sort.grow (W.drewN q) os' := by
  obtain ⟨X, O⟩ := a
  obtain ⟨Y, R⟩ := b
  have HC1 := Lib.hid (fun W' => cmpCompare_any (X.length : Int) (Y.length : Int) W')
  have HC2 := Lib.hid (fun W' (h : Grw W W') => slicesCompare_any _ _ X Y W' (ha.1.below h.below) (hb.1.below h.below) l1 l3)
  have HC3 := Lib.hid (fun W' (h : Grw W W') => slicesCompare_any _ _ O R W' (ha.2.below h.below) (hb.2.below h.below) l2 l4)
  obtain ⟨⟨A0, n0, c0⟩, A1, n1, c1⟩ := p
  obtain ⟨⟨A2, n2, c2⟩, A3, n3, c3⟩ := q
  have h1 : n0 = X.length := ints_len ha.1
  have h2 : n1 = O.length := ints_len ha.2
  have h3 : n2 = Y.length := ints_len hb.1
  have h4 : n3 = R.length := ints_len hb.2
  simp only [sv] at HC2 HC3
  clear ha hb
  subst h1 h2 h3 h4
  simp only [sv]
  obtain ⟨rr, hrr⟩ : ∃ rr, rr = cmpG (X, O) (Y, R) := ⟨_, rfl⟩
  rw [← hrr]
  unfold cmpG at hrr
  simp only at hrr
  generalize cmpI (X.length : Int) (Y.length : Int) = r1 at *
  generalize cmpL X Y = r2 at *
  generalize cmpL O R = r3 at *
  have HRR := Lib.hid hrr
  clear hrr l1 l2 l3 l4
  have hW : ∀ w, w = (W.alloc (.cells #[.slice A0 X.length c0, .slice A1 O.length c1] 24)).alloc (.cells #[.slice A2 Y.length c2, .slice A3 R.length c3] 24) → Arr w W.heap.size 24 [.slice A0 X.length c0, .slice A1 O.length c1] ∧ Arr w (W.heap.size + 1) 24 [.slice A2 Y.length c2, .slice A3 R.length c3] ∧ Grw W w := by
    intro w hw
    subst hw
    exact ⟨(Arr.new _ _ [_, _]).alloc _, Arr.newAt (W.alloc _) _ [_, _] _ (by simp), (Grw.alloc _ _).trans (Grw.alloc _ _)⟩
  go_enter Tryz.func17, Tryz.ntmps17
  go_upto_region 1 with fail
  generalize (W.alloc (.cells #[.slice A0 X.length c0, .slice A1 O.length c1] 24)).alloc (.cells #[.slice A2 Y.length c2, .slice A3 R.length c3] 24) = w3 at hW ⊢
  obtain ⟨q1, q2, hg3⟩ := hW w3 rfl
  obtain ⟨B1, hB1⟩ : ∃ B, B = W.heap.size := ⟨_, rfl⟩
  obtain ⟨B2, hB2⟩ : ∃ B, B = W.heap.size + 1 := ⟨_, rfl⟩
  rw [← hB2] at q2
  try rw [← hB2]
  rw [← hB1] at q1 ⊢
  rw [← hB1] at hB2
  try rw [← hB2]
  have Q1 := Lib.hid q1
  have Q2 := Lib.hid q2
  have HG3 := Lib.hid hg3
  clear q1 q2 hg3 hW hB1 hB2
  refine wp_region_phw Grw Grw.refl Grw.trans Grw.drew (by kernel_rfl) (by kernel_rfl) (by kernel_rfl) (by kernel_rfl) (by kernel_rfl) (phiT (fun i => ([some (.pointer (some ⟨B1, 0, none⟩)), some (.slice A0 X.length c0), some (.int .i64 (X.length : Int)), some (.pointer (some ⟨B2, 0, none⟩)), some (.slice A2 Y.length c2), some (.int .i64 (Y.length : Int)), some (.int .i64 r1), some (.pointer (some ⟨B1, 0, none⟩)), some (.slice A0 X.length c0), some (.pointer (some ⟨B2, 0, none⟩)), some (.slice A2 Y.length c2), some (.int .i64 r2), some (.pointer (some ⟨B1, 1, none⟩)), some (.slice A1 O.length c1), some (.pointer (some ⟨B2, 1, none⟩)), some (.slice A3 R.length c3), some (.int .i64 r3), none, some (.int .i64 rr), some (.int .i64 rr)] : List (Option Value)).getD i none) (fun i v w => (if i = 17 then (fun v w => ∃ g, v = .slice (some ⟨g, 0, none⟩) 3 3 ∧ Arr w g 3 [.int .i64 r1, .int .i64 r2, .int .i64 r3]) v w else True))) (fun i v w w' h hb => ?_) ⟨?_, ?_, ?_, ?_, ?_, ?_, ?_, ?_, ?_, ?_, ?_, ?_, ?_, ?_, ?_, ?_, ?_, ?_, ?_, ?_, trivial⟩ ?_
  · unfold phiT at h ⊢
    split
    · next u hu => rw [hu] at h; exact h
    · next hu =>
      rw [hu] at h
      simp only at h ⊢
      by_cases q17 : i = 17
      · rw [if_pos q17] at h ⊢; exact by obtain ⟨g, h1, h2⟩ := h; exact ⟨g, h1, h2.below hb.below h2.lt⟩
      · rw [if_neg q17] at h ⊢
        trivial
  · intro x w1 bA hbel hdep hold hb
    have e2 : bA.tmps[2]?.getD undef = .pointer (some ⟨B1, 0, none⟩) := hb 2
    refine phw_run Grw.refl (.pointer (some ⟨B1, 0, none⟩)) ?_ rfl
    clear hb hdep hold
    go_simp
  · intro x w1 bA hbel hdep hold hb
    have e5 : bA.tmps[5]?.getD undef = .pointer (some ⟨B1, 0, none⟩) := (hb 5).trans (hdep 0 (by decide))
    have cc := (Q1.out.below hbel.below Q1.out.lt).cell 0
    refine phw_run Grw.refl (.slice A0 X.length c0) ?_ rfl
    clear hb hdep hold
    go_simp
  · intro x w1 bA hbel hdep hold hb
    have e6 : bA.tmps[6]?.getD undef = .slice A0 X.length c0 := (hb 6).trans (hdep 1 (by decide))
    refine phw_run Grw.refl (.int .i64 (X.length : Int)) ?_ rfl
    clear hb hdep hold
    go_simp
  · intro x w1 bA hbel hdep hold hb
    have e3 : bA.tmps[3]?.getD undef = .pointer (some ⟨B2, 0, none⟩) := hb 3
    refine phw_run Grw.refl (.pointer (some ⟨B2, 0, none⟩)) ?_ rfl
    clear hb hdep hold
    go_simp
  · intro x w1 bA hbel hdep hold hb
    have e8 : bA.tmps[8]?.getD undef = .pointer (some ⟨B2, 0, none⟩) := (hb 8).trans (hdep 3 (by decide))
    have cc := (Q2.out.below hbel.below Q2.out.lt).cell 0
    refine phw_run Grw.refl (.slice A2 Y.length c2) ?_ rfl
    clear hb hdep hold
    go_simp
  · intro x w1 bA hbel hdep hold hb
    have e9 : bA.tmps[9]?.getD undef = .slice A2 Y.length c2 := (hb 9).trans (hdep 4 (by decide))
    refine phw_run Grw.refl (.int .i64 (Y.length : Int)) ?_ rfl
    clear hb hdep hold
    go_simp
  · intro x w1 bA hbel hdep hold hb
    have e7 : bA.tmps[7]?.getD undef = .int .i64 (X.length : Int) := (hb 7).trans (hdep 2 (by decide))
    have e10 : bA.tmps[10]?.getD undef = .int .i64 (Y.length : Int) := (hb 10).trans (hdep 5 (by decide))
    refine phw_call ?_ ((HC1.out w1).mono fun e w' h => ⟨_, h.1, by rw [← h.2]; exact Grw.refl _, rfl⟩)
    clear hb hdep hold
    go_simp
  · intro x w1 bA hbel hdep hold hb
    have e2 : bA.tmps[2]?.getD undef = .pointer (some ⟨B1, 0, none⟩) := hb 2
    refine phw_run Grw.refl (.pointer (some ⟨B1, 0, none⟩)) ?_ rfl
    clear hb hdep hold
    go_simp
  · intro x w1 bA hbel hdep hold hb
    have e12 : bA.tmps[12]?.getD undef = .pointer (some ⟨B1, 0, none⟩) := (hb 12).trans (hdep 7 (by decide))
    have cc := (Q1.out.below hbel.below Q1.out.lt).cell 0
    refine phw_run Grw.refl (.slice A0 X.length c0) ?_ rfl
    clear hb hdep hold
    go_simp
  · intro x w1 bA hbel hdep hold hb
    have e3 : bA.tmps[3]?.getD undef = .pointer (some ⟨B2, 0, none⟩) := hb 3
    refine phw_run Grw.refl (.pointer (some ⟨B2, 0, none⟩)) ?_ rfl
    clear hb hdep hold
    go_simp
  · intro x w1 bA hbel hdep hold hb
    have e14 : bA.tmps[14]?.getD undef = .pointer (some ⟨B2, 0, none⟩) := (hb 14).trans (hdep 9 (by decide))
    have cc := (Q2.out.below hbel.below Q2.out.lt).cell 0
    refine phw_run Grw.refl (.slice A2 Y.length c2) ?_ rfl
    clear hb hdep hold
    go_simp
  · intro x w1 bA hbel hdep hold hb
    have e13 : bA.tmps[13]?.getD undef = .slice A0 X.length c0 := (hb 13).trans (hdep 8 (by decide))
    have e15 : bA.tmps[15]?.getD undef = .slice A2 Y.length c2 := (hb 15).trans (hdep 10 (by decide))
    refine phw_call ?_ ((HC2.out w1 (HG3.out.trans hbel)).mono fun e w' h => ⟨_, h.1, by rw [← h.2]; exact Grw.refl _, rfl⟩)
    clear hb hdep hold
    go_simp
  · intro x w1 bA hbel hdep hold hb
    have e2 : bA.tmps[2]?.getD undef = .pointer (some ⟨B1, 0, none⟩) := hb 2
    refine phw_run Grw.refl (.pointer (some ⟨B1, 1, none⟩)) ?_ rfl
    clear hb hdep hold
    go_simp
  · intro x w1 bA hbel hdep hold hb
    have e17 : bA.tmps[17]?.getD undef = .pointer (some ⟨B1, 1, none⟩) := (hb 17).trans (hdep 12 (by decide))
    have cc := (Q1.out.below hbel.below Q1.out.lt).cell 1
    refine phw_run Grw.refl (.slice A1 O.length c1) ?_ rfl
    clear hb hdep hold
    go_simp
  · intro x w1 bA hbel hdep hold hb
    have e3 : bA.tmps[3]?.getD undef = .pointer (some ⟨B2, 0, none⟩) := hb 3
    refine phw_run Grw.refl (.pointer (some ⟨B2, 1, none⟩)) ?_ rfl
    clear hb hdep hold
    go_simp
  · intro x w1 bA hbel hdep hold hb
    have e19 : bA.tmps[19]?.getD undef = .pointer (some ⟨B2, 1, none⟩) := (hb 19).trans (hdep 14 (by decide))
    have cc := (Q2.out.below hbel.below Q2.out.lt).cell 1
    refine phw_run Grw.refl (.slice A3 R.length c3) ?_ rfl
    clear hb hdep hold
    go_simp
  · intro x w1 bA hbel hdep hold hb
    have e18 : bA.tmps[18]?.getD undef = .slice A1 O.length c1 := (hb 18).trans (hdep 13 (by decide))
    have e20 : bA.tmps[20]?.getD undef = .slice A3 R.length c3 := (hb 20).trans (hdep 15 (by decide))
    refine phw_call ?_ ((HC3.out w1 (HG3.out.trans hbel)).mono fun e w' h => ⟨_, h.1, by rw [← h.2]; exact Grw.refl _, rfl⟩)
    clear hb hdep hold
    go_simp
  · intro x w1 bA hbel hdep hold hb
    have e11 : bA.tmps[11]?.getD undef = .int .i64 r1 := (hb 11).trans (hdep 6 (by decide))
    have e16 : bA.tmps[16]?.getD undef = .int .i64 r2 := (hb 16).trans (hdep 11 (by decide))
    have e21 : bA.tmps[21]?.getD undef = .int .i64 r3 := (hb 21).trans (hdep 16 (by decide))
    refine phw_make (.slice (some ⟨w1.heap.size, 0, none⟩) 3 3) (w1.alloc (.cells #[.int .i64 r1, .int .i64 r2, .int .i64 r3] 3)) ?_ (Grw.alloc _ _) (⟨w1.heap.size, rfl, Arr.new w1 3 [.int .i64 r1, .int .i64 r2, .int .i64 r3]⟩)
    clear hb hdep hold
    go_simp
  · intro x w1 bA hbel hdep hold hb
    have p22 := hdep 17 (by decide)
    have e22 : bA.tmps[22]?.getD undef = x 17 := hb 22
    generalize x 17 = x22 at p22 e22
    have P22 := Lib.hid (show (fun v w => ∃ g, v = .slice (some ⟨g, 0, none⟩) 3 3 ∧ Arr w g 3 [.int .i64 r1, .int .i64 r2, .int .i64 r3]) x22 w1 from p22)
    clear p22
    obtain ⟨gq, heq, haq⟩ := P22.out
    subst heq
    have HAQ := Lib.hid haq
    clear haq P22
    refine phw_call ?_ ((cor3_any gq r1 r2 r3 w1 HAQ.out).mono fun e w' h => ⟨.int .i64 rr, by rw [h.1, HRR.out], by rw [h.2]; exact Grw.refl _, rfl⟩)
    clear hb hdep hold
    go_simp
  · intro x w1 bA hbel hdep hold hb
    have e23 : bA.tmps[23]?.getD undef = .int .i64 rr := (hb 23).trans (hdep 18 (by decide))
    refine phw_run Grw.refl (.int .i64 rr) ?_ rfl
    clear hb hdep hold
    go_simp
  intro x w1 hbel hall
  have x0e : x 0 = .pointer (some ⟨B1, 0, none⟩) := hall 0 (by decide)
  have x1e : x 1 = .slice A0 X.length c0 := hall 1 (by decide)
  have x2e : x 2 = .int .i64 (X.length : Int) := hall 2 (by decide)
  have x3e : x 3 = .pointer (some ⟨B2, 0, none⟩) := hall 3 (by decide)
  have x4e : x 4 = .slice A2 Y.length c2 := hall 4 (by decide)
  have x5e : x 5 = .int .i64 (Y.length : Int) := hall 5 (by decide)
  have x6e : x 6 = .int .i64 r1 := hall 6 (by decide)
  have x7e : x 7 = .pointer (some ⟨B1, 0, none⟩) := hall 7 (by decide)
  have x8e : x 8 = .slice A0 X.length c0 := hall 8 (by decide)
  have x9e : x 9 = .pointer (some ⟨B2, 0, none⟩) := hall 9 (by decide)
  have x10e : x 10 = .slice A2 Y.length c2 := hall 10 (by decide)
  have x11e : x 11 = .int .i64 r2 := hall 11 (by decide)
  have x12e : x 12 = .pointer (some ⟨B1, 1, none⟩) := hall 12 (by decide)
  have x13e : x 13 = .slice A1 O.length c1 := hall 13 (by decide)
  have x14e : x 14 = .pointer (some ⟨B2, 1, none⟩) := hall 14 (by decide)
  have x15e : x 15 = .slice A3 R.length c3 := hall 15 (by decide)
  have x16e : x 16 = .int .i64 r3 := hall 16 (by decide)
  have p22 := hall 17 (by decide)
  have x18e : x 18 = .int .i64 rr := hall 18 (by decide)
  have x19e : x 19 = .int .i64 rr := hall 19 (by decide)
  simp only [putAll, dstOf, Act.put, List.map_cons, List.map_nil, List.setIfInBounds_toArray, List.set_cons_succ, List.set_cons_zero, Nat.reduceAdd, x0e, x1e, x2e, x3e, x4e, x5e, x6e, x7e, x8e, x9e, x10e, x11e, x12e, x13e, x14e, x15e, x16e, x18e, x19e]
  clear x0e x1e x2e x3e x4e x5e x6e x7e x8e x9e x10e x11e x12e x13e x14e x15e x16e x18e x19e hall
  clear p22
  have HG := Lib.hid (HG3.out.trans hbel)
  clear hbel
  go_wp2_with fail
  go_ret
  exact ⟨rfl, HG.out⟩
end Go.Proofs.YteliflcbegcdlaaGreatDoor
