/- laurent.Term within the limits; terms of package fox in memory; parts of lists of terms (plain). -/
/- A region that draws its order, whose operations leave what was there as it is (they may make memory and call): each operation is walked once; of each result a fact that later growth keeps. -/
/- A region that draws its order, whose operations read or call quietly, but for a store at its end: each operation is walked once, by a table of values. -/
import Derived.Test.YtlbihllmpbhhcaaDoorZPad
import Derived.Test.YtlbihllmpbhhcaaDoorZFacts
import Derived.Test.YtlbihllmpbhhcaaDoorZBase2
import Derived.Deep.Draws
namespace Go.Proofs.YtlbihllmpbhhcaaDoor
open Go.RowKit
set_option linter.unusedVariables false

set_option maxHeartbeats 1000000 in
theorem Term_any (co ex : Int) (w : World) (h0 : co ≠ 0) (h1 : -1125899906842624 ≤ co) (h2 : co ≤ 1125899906842624) (h3 : -1048576 ≤ ex) (h4 : ex ≤ 1048576) :
    Calls Tryd.prog 63 #[.int .i64 co, .int .i64 ex] w fun e w' => ∃ v, e = .returned v ∧ PolyV w' v (some [(ex, co)]) ∧ Below w.heap.size w w' := by
  have z1 : (co == 0) = false := by simp [h0]
  have W1 := Lib.hid (fun W => show Calls Tryd.prog 48 #[.int .i64 co, .int .i64 1125899906842624] W fun e w' => e = .returned (.bool true) ∧ W = w' from by
    have h := within_any co 1125899906842624 W (by omega) (by omega)
    rwa [show wiB co 1125899906842624 = true from decide_eq_true ⟨h1, h2⟩] at h)
  have W2 := Lib.hid (fun W => show Calls Tryd.prog 48 #[.int .i64 ex, .int .i64 1048576] W fun e w' => e = .returned (.bool true) ∧ W = w' from by
    have h := within_any ex 1048576 W (by omega) (by omega)
    rwa [show wiB ex 1048576 = true from decide_eq_true ⟨h3, h4⟩] at h)
  have hW : ∀ W, W = w.alloc (.cells #[.bool false, .slice none 0 0] 27) → Arr W w.heap.size 27 [.bool false, .slice none 0 0] ∧ Below w.heap.size w W ∧ W.heap.size = w.heap.size + 1 := by
    intro W hW
    subst hW
    exact ⟨Arr.new _ _ [_, _], (Below.refl _ _).alloc (Nat.le_refl _) _, by simp⟩
  go_enter Tryd.func63, Tryd.ntmps63
  go_upto_region 1 with fail
  generalize (w.alloc (.cells #[.bool false, .slice none 0 0] 27)) = w3 at hW ⊢
  obtain ⟨qr, hb3, hs3⟩ := hW w3 rfl
  clear hW
  have hset := (qr.set 0 (.bool false)).set 1 (.slice (some ⟨w.heap.size + 1, 0, none⟩) 1 1)
  have hres := Lib.hid (hset.alloc (.cells #[.int .i64 ex, .int .i64 co] 77))
  have HT := Lib.hid (show Tms (((w3.setCell ⟨w.heap.size, 0, none⟩ (.bool false)).setCell ⟨w.heap.size, 1, none⟩ (.slice (some ⟨w.heap.size + 1, 0, none⟩) 1 1)).alloc (.cells #[.int .i64 ex, .int .i64 co] 77)) (.slice (some ⟨w.heap.size + 1, 0, none⟩) 1 1) [(ex, co)] from ⟨_, _, rfl, fun k hk => by
    have ha := Arr.newAt ((w3.setCell ⟨w.heap.size, 0, none⟩ (.bool false)).setCell ⟨w.heap.size, 1, none⟩ (.slice (some ⟨w.heap.size + 1, 0, none⟩) 1 1)) 77 [.int .i64 ex, .int .i64 co] (w.heap.size + 1) (by simp; omega)
    obtain rfl : k = 0 := by simpa using hk
    exact ⟨w.heap.size + 1, 0, rfl, ha.cell 0, ha.cell 1, _, _, ha⟩⟩)
  have HB := Lib.hid (((hb3.setCell (p := ⟨w.heap.size, 0, none⟩) (Nat.le_refl _) (.bool false)).setCell (p := ⟨w.heap.size, 1, none⟩) (Nat.le_refl _) (.slice (some ⟨w.heap.size + 1, 0, none⟩) 1 1)).alloc (by simp; omega) (.cells #[.int .i64 ex, .int .i64 co] 77))
  clear hset
  have x0 := qr.cell 0
  have x1 := qr.cell 1
  have f0 := qr.frozen 0
  have f1 := qr.frozen 1
  have hlt := qr.lt
  clear h0
  go_wp2_with (first | (go_at_call_of 48 (Value.int IntKind.i64 1125899906842624); refine (W1.out _).mono ?_; rintro e w1 ⟨rfl, rfl⟩) | (go_at_call 48; refine (W2.out _).mono ?_; rintro e w1 ⟨rfl, rfl⟩))
  refine bodyPost_ret (v := .agg #[.bool false, .slice (some ⟨w.heap.size + 1, 0, none⟩) 1 1]) (results_c Tryd.results63 _ _ w.heap.size 27 _ _ rfl hres.out Tryd.underlying27 rfl info_poly) rfl ?_
  exact ⟨_, rfl, ⟨_, _, rfl, HT.out⟩, HB.out⟩
/-- a part of a list -/
def sl (ts : List (Int × Int)) (lo hi : Nat) : List (Int × Int) := (ts.take hi).drop lo
theorem sl_split {ts : List (Int × Int)} {lo mid hi : Nat} (h1 : lo ≤ mid) (h2 : mid ≤ hi) (h3 : hi ≤ ts.length) : sl ts lo hi = sl ts lo mid ++ sl ts mid hi := by
  unfold sl
  have e : ts.take hi = ts.take mid ++ (ts.take hi).drop mid := by
    conv => lhs; rw [← List.take_append_drop mid (ts.take hi)]
    rw [List.take_take, Nat.min_eq_left h2]
  conv => lhs; rw [e]
  rw [List.drop_append_of_le_length (by simp; omega)]
theorem sl_one {ts : List (Int × Int)} {lo : Nat} (h : lo < ts.length) : sl ts lo (lo + 1) = [ts[lo]] := by
  unfold sl
  rw [List.take_add_one, List.getElem?_eq_getElem h, List.drop_append_of_le_length (by simp; omega)]
  simp
theorem sl_nil (ts : List (Int × Int)) (lo : Nat) : sl ts lo lo = [] := by unfold sl; simp
theorem sl_all (ts : List (Int × Int)) : sl ts 0 ts.length = ts := by unfold sl; simp
theorem sl_len {ts : List (Int × Int)} {lo hi : Nat} (h : hi ≤ ts.length) : (sl ts lo hi).length = hi - lo := by unfold sl; simp; omega
theorem sl_mem {ts : List (Int × Int)} {lo hi : Nat} : ∀ t ∈ sl ts lo hi, t ∈ ts := fun t ht => List.mem_of_mem_take (List.mem_of_mem_drop ht)
/-- coefficients 1 and -1 -/
def Unit1 (ts : List (Int × Int)) : Prop := ∀ t ∈ ts, (t.2 = 1 ∨ t.2 = -1) ∧ -1048576 ≤ t.1 ∧ t.1 ≤ 1048576
theorem cf_unit {ts : List (Int × Int)} (h : Unit1 ts) (e : Int) : -(ts.length : Int) ≤ cf ts e ∧ cf ts e ≤ ts.length := by
  induction ts with
  | nil => simp [cf]
  | cons t l ih =>
    have h1 := (h t (List.mem_cons_self ..)).1
    have h2 := ih (fun s hs => h s (List.mem_cons_of_mem _ hs))
    rw [cf_cons, List.length_cons]
    split <;> omega
/-- the terms of package fox: coefficient, exponent -/
def fc (t : Int × Int) : List Value := [.int .i64 t.2, .int .i64 t.1]
def FTm (w : World) (v : Value) (l : List (Int × Int)) : Prop :=
  ∃ A c, v = .slice A l.length c ∧ ∀ k (h : k < l.length), ∃ b o, A = some ⟨b, o, none⟩ ∧ w.cell? ⟨b, o + k * 2, none⟩ = some (.int .i64 l[k].2) ∧ w.cell? ⟨b, o + k * 2 + 1, none⟩ = some (.int .i64 l[k].1)
theorem FTm.below {w w' : World} {v : Value} {l : List (Int × Int)} (h : FTm w v l) (hb : Below w.heap.size w w') : FTm w' v l := by
  obtain ⟨A, c, hv, hx⟩ := h
  refine ⟨A, c, hv, fun k hk => ?_⟩
  obtain ⟨b, o, hA, h1, h2⟩ := hx k hk
  exact ⟨b, o, hA, (hb.cell (block_lt_of_cell h1)).trans h1, (hb.cell (block_lt_of_cell h2)).trans h2⟩
/-- what part returns -/
def PartR (ts : List (Int × Int)) (lo hi : Nat) (w : World) (e : Ending) (w' : World) : Prop := ∃ v r, e = .returned v ∧ PolyV w' v (some r) ∧ Can r ∧ Lim r ∧ (∀ x, cf r x = cf (sl ts lo hi) x) ∧ Below w.heap.size w w'
theorem part_join {ts r1 r2 : List (Int × Int)} {lo mid hi : Nat} {r : Pol} (hu : Unit1 ts) (hl : ts.length ≤ 100000) (h1 : lo ≤ mid) (h2 : mid ≤ hi) (h3 : hi ≤ ts.length) (e1 : ∀ x, cf r1 x = cf (sl ts lo mid) x) (e2 : ∀ x, cf r2 x = cf (sl ts mid hi) x) (h : CombP (fun a b => a + b) (some r1) (some r2) r) : ∃ l, r = some l ∧ Can l ∧ Lim l ∧ ∀ x, cf l x = cf (sl ts lo hi) x := by
  have key : ∀ x, cf r1 x + cf r2 x = cf (sl ts lo hi) x := fun x => by rw [e1, e2, sl_split h1 h2 h3, cf_append]
  rcases h with ⟨l, rfl, hc, hli, hx⟩ | ⟨_, x, hx⟩
  · exact ⟨l, rfl, hc, hli, fun x => by rw [hx]; exact key x⟩
  · exfalso
    apply hx
    have h4 := cf_unit (ts := sl ts lo hi) (fun t ht => hu t (sl_mem t ht)) x
    rw [sl_len h3] at h4
    show _ ≤ cf r1 x + cf r2 x ∧ cf r1 x + cf r2 x ≤ _
    rw [key]; omega
end Go.Proofs.YtlbihllmpbhhcaaDoor

namespace Go.Proofs.YtlbihllmpbhhcaaDoor
open Go.RowKit
set_option linter.unusedVariables false

section
variable {P : Program} {ops : Array Oper} {Q : Exit → Act → World → Prop}
/-- The region by facts. 'x i' is the value of operation i, 'D i' says that it has come up. -/
theorem wp_region_facts2 {id : Nat} {a : Act} {w : World} (hm : P.follows .mixedOrders = true) (hd : apartD (dstOf ops) = true) (hb : backD ops = true)
    (I : (Nat → Bool) → (Nat → Value) → World → Prop)
    (h0 : I (fun _ => false) (fun j => slotV a ((dstOf ops).getD (j - 0) none)) w.drew)
    (hstep : ∀ i o, ops[i]? = some o → ∀ D x w, I D x w → D i = false → (∀ j ∈ deps o, D j = true) → (∀ j, D j = true → ∀ k ∈ depsAt ops j, D k = true) → wpOp P ops Q i (fun a' w' => ∃ v, a' = (putAll (dstOf ops) 0 x a).put o.dst v ∧ I (upd D i true) (upd x i v) w') (putAll (dstOf ops) 0 x a) w)
    (hend : ∀ D x w, I D x w → (∀ i, i < ops.size → D i = true) → Q .normal (putAll (dstOf ops) 0 x a) w) : (Code.region id ops true).wp P Q a w := by
  refine wp_region_any hm (wpAny_inv hb (fun l a' w' => ∃ x, a' = putAll (dstOf ops) 0 x a ∧ (∀ j, l.getD j false = true → ∀ k ∈ depsAt ops j, l.getD k false = true) ∧ I (fun j => l.getD j false) x w') ?_ ?_ _ _ _ _ (by simp) ?_ ?_)
  · rintro l a' w' i hs ⟨x, rfl, hcl, hI⟩ hi
    obtain ⟨hun, o, ho, hdep⟩ := mem_ready.1 hi
    have hlt : i < ops.size := (Array.getElem?_eq_some_iff.1 ho).1
    have hdi : (dstOf ops).getD i none = o.dst := by
      have : ops[i] = o := by simpa [hlt] using ho
      simp [dstOf, hlt, this]
    have hdp : ∀ j ∈ deps o, l.getD j false = true := by
      intro j hj
      simp only [deps, List.mem_map, List.mem_filter] at hj
      obtain ⟨e, ⟨he, hbe⟩, rfl⟩ := hj
      exact hdep e (by simpa using he) hbe
    refine wpOp_mono ?_ (hstep i o ho (fun j => l.getD j false) x w' hI (by have h' : i < l.size := by omega
                                                                            simpa [Array.getD, h'] using hun) hdp hcl)
    · rintro a'' w'' ⟨v, rfl, hI'⟩
      refine ⟨upd x i v, ?_, ?_, ?_⟩
      · rw [← hdi, putAll_upd _ _ _ _ _ _ hd (by simpa [dstOf] using hlt), Nat.zero_add]
      · intro j hj k hk
        by_cases e : k = i
        · subst e
          have h' : k < l.size := by omega
          simp [Array.getD, h']
        rw [getD_set_ne _ (Ne.symm e)]
        by_cases ej : j = i
        · subst ej
          simp only [depsAt, ho] at hk
          exact hdp k hk
        · rw [getD_set_ne _ (Ne.symm ej)] at hj
          exact hcl j hj k hk
      · have : (fun j => (l.setIfInBounds i true).getD j false) = upd (fun j => l.getD j false) i true := by
          funext j
          by_cases e : j = i
          · subst e
            have h' : j < l.size := by omega
            simp [upd, Array.getD, h']
          · rw [upd_ne _ _ e, getD_set_ne _ (Ne.symm e)]
        rw [this]
        exact hI'
  · rintro l a' w' hs ⟨x, rfl, _, hI⟩ hall
    refine hend _ x w' hI (fun i hi => ?_)
    have := hall i hi
    cases hl : l.getD i false with
    | true => rfl
    | false => 
      rcases Nat.lt_or_ge i l.size with h' | h'
      · simp [Array.getD, h'] at this hl; rw [this] at hl; cases hl
      · omega
  · exact Nat.le_trans List.countP_le_length (by simp)
  · refine ⟨_, (putAll_start _ 0 a hd).symm, fun j hj => ?_, ?_⟩
    · by_cases h : j < ops.size <;> simp [Array.getD, h] at hj
    have : (fun j => (Array.replicate ops.size false).getD j false) = fun _ => false := by
      funext j
      by_cases h : j < ops.size <;> simp [Array.getD, h]
    rw [this]
    exact h0
/-- the region by facts, no operation guarded -/
theorem wp_region_facts2U {id : Nat} {l : List Oper} {a : Act} {w : World} (hm : P.follows .mixedOrders = true) (hd : apartD (dstOf l.toArray) = true) (hb : backD l.toArray = true) (hg : l.all (fun o => o.guard.isNone) = true) (hn : inD a.tmps.size (dstOf l.toArray) = true)
    (I : (Nat → Bool) → (Nat → Value) → World → Prop)
    (h0 : I (fun _ => false) (fun j => slotV a ((dstOf l.toArray).getD (j - 0) none)) w.drew)
    (hstep : AllOps (fun i o => ∀ D x w (b : Act), I D x w → D i = false → (∀ j ∈ deps o, D j = true) → (∀ j, D j = true → ∀ k ∈ depsAt l.toArray j, D k = true) → (∀ t : Nat, b.tmps[t]?.getD undef = look (dstOf l.toArray) x a t) → o.wp P b w (StepPost I D x i b o.dst) NoQ) 0 l)
    (hend : ∀ D x w, I D x w → (∀ i, i < l.length → D i = true) → Q .normal (putAll (dstOf l.toArray) 0 x a) w) : (Code.region id l.toArray true).wp P Q a w := by
  refine wp_region_facts2 hm hd hb I h0 (fun i o ho D x w hI hD hdep hcl => ?_) (fun D x w hI h => hend D x w hI (by simpa using h))
  have ho' : l[i]? = some o := by simpa using ho
  refine wpOp_plain ho ?_ ?_
  · have := List.all_eq_true.1 hg o (List.mem_of_getElem? ho')
    simpa using this
  · have := hstep.get _ _ i o ho' D x w (putAll (dstOf l.toArray) 0 x a)
    rw [Nat.zero_add] at this
    refine wp_noQ (this hI hD hdep hcl (fun t => ?_))
    rw [← Array.getD_eq_getD_getElem?, putAll_look _ _ _ _ _ hd hn]
    unfold look
    simp only [Nat.zero_add]
end
section
variable {P : Program} {Q : Exit → Act → World → Prop}
/-- behind one operation -/
def PhiPost (w : World) (Φ : Nat → Value → World → Prop) (i : Nat) (b : Act) (d : Option Tmp) (a' : Act) (w' : World) : Prop := ∃ v, a' = b.put d v ∧ Below w.heap.size w w' ∧ Φ i v w'
def PhiI (w0 : World) (Φ : Nat → Value → World → Prop) (x0 : Nat → Value) (D : Nat → Bool) (x : Nat → Value) (w : World) : Prop := Below w0.heap.size w0 w ∧ (∀ i, D i = true → Φ i (x i) w) ∧ ∀ i, D i = false → x i = x0 i
theorem wp_region_phi {id : Nat} {l : List Oper} {a : Act} {w0 : World} (hm : P.follows .mixedOrders = true) (hd : apartD (dstOf l.toArray) = true) (hb : backD l.toArray = true) (hg : l.all (fun o => o.guard.isNone) = true) (hn : inD a.tmps.size (dstOf l.toArray) = true)
    (Φ : Nat → Value → World → Prop) (hΦ : ∀ i v w w', Φ i v w → Below w.heap.size w w' → Φ i v w')
    (hstep : AllOps (fun i o => ∀ (x : Nat → Value) w (b : Act), Below w0.heap.size w0 w → (∀ j ∈ deps o, Φ j (x j) w) → (∀ j, i ∈ depsAt l.toArray j → x j = slotV a ((dstOf l.toArray).getD (j - 0) none)) → (∀ t : Nat, b.tmps[t]?.getD undef = look (dstOf l.toArray) x a t) → o.wp P b w (PhiPost w Φ i b o.dst) NoQ) 0 l)
    (hend : ∀ (x : Nat → Value) w, Below w0.heap.size w0 w → (∀ i, i < l.length → Φ i (x i) w) → Q .normal (putAll (dstOf l.toArray) 0 x a) w) : (Code.region id l.toArray true).wp P Q a w0 := by
  refine wp_region_facts2U hm hd hb hg hn (PhiI w0 Φ (fun j => slotV a ((dstOf l.toArray).getD (j - 0) none))) ⟨(Below.refl _ _).drew, fun i h => Bool.noConfusion h, fun _ _ => rfl⟩ ?_ ?_
  · have key : ∀ k o, l[k]? = some o → ∀ D x W (b : Act), PhiI w0 Φ (fun j => slotV a ((dstOf l.toArray).getD (j - 0) none)) D x W → D k = false → (∀ j ∈ deps o, D j = true) → (∀ j, D j = true → ∀ q ∈ depsAt l.toArray j, D q = true) → (∀ t : Nat, b.tmps[t]?.getD undef = look (dstOf l.toArray) x a t) → o.wp P b W (StepPost (PhiI w0 Φ (fun j => slotV a ((dstOf l.toArray).getD (j - 0) none))) D x k b o.dst) NoQ := by
      intro k o ho D x W b hI hD hdep hcl hbt
      have hs := hstep.get _ _ k o ho x W b hI.1 (fun j hj => hI.2.1 j (hdep j hj)) (fun j hj => hI.2.2 j (by
        cases h : D j with
        | false => rfl
        | true =>
          rw [Nat.zero_add] at hj
          have := hcl j h k hj
          rw [hD] at this; cases this)) hbt
      rw [Nat.zero_add] at hs
      refine Oper.wp_mono ?_ hs
      rintro a' w' ⟨v, rfl, hb', hv⟩
      refine ⟨v, rfl, hI.1.trans (hb'.mono hI.1.size), fun i hi => ?_, fun i hi => ?_⟩
      · by_cases e : i = k
        · subst e; rw [upd_same]; exact hv
        · rw [upd_ne _ _ e] at hi ⊢
          exact hΦ i (x i) W w' (hI.2.1 i hi) hb'
      · by_cases e : i = k
        · subst e; rw [upd_same] at hi; cases hi
        · rw [upd_ne _ _ e] at hi ⊢
          exact hI.2.2 i hi
    have aux : ∀ (r : List Oper) (s : Nat), (∀ k, r[k]? = l[s + k]?) → AllOps (fun i o => ∀ D x W (b : Act), PhiI w0 Φ (fun j => slotV a ((dstOf l.toArray).getD (j - 0) none)) D x W → D i = false → (∀ j ∈ deps o, D j = true) → (∀ j, D j = true → ∀ q ∈ depsAt l.toArray j, D q = true) → (∀ t : Nat, b.tmps[t]?.getD undef = look (dstOf l.toArray) x a t) → o.wp P b W (StepPost (PhiI w0 Φ (fun j => slotV a ((dstOf l.toArray).getD (j - 0) none))) D x i b o.dst) NoQ) s r := by
      intro r
      induction r with
      | nil => intro s _; trivial
      | cons o r ih =>
        intro s hr
        refine ⟨key s o (by have := hr 0; simpa using this.symm), ih (s + 1) (fun k => ?_)⟩
        have := hr (k + 1)
        rw [List.getElem?_cons_succ] at this
        rw [this]; congr 1; omega
    exact aux l 0 (fun k => by rw [Nat.zero_add])
  · intro D x W hI hall
    exact hend x W hI.1 (fun i hi => hI.2.1 i (hall i hi))
variable {w : World} {Φ : Nat → Value → World → Prop} {i : Nat} {b : Act} {o : Oper}
theorem phi_run (v : Value) (h : (execOp b.eval o).run P w = .ok (.value v) w) (hv : Φ i v w) : o.wp P b w (PhiPost w Φ i b o.dst) NoQ := by
  unfold Oper.wp; rw [h]; exact ⟨v, rfl, Below.refl _ _, hv⟩
theorem phi_make (v : Value) (w' : World) (h : (execOp b.eval o).run P w = .ok (.value v) w') (hb : Below w.heap.size w w') (hv : Φ i v w') : o.wp P b w (PhiPost w Φ i b o.dst) NoQ := by
  unfold Oper.wp; rw [h]; exact ⟨v, rfl, hb, hv⟩
theorem phi_call {f : FuncId} {args : Array Value} (h : (execOp b.eval o).run P w = .ok (.enter f args) w) (hc : Calls P f args w fun e w' => ∃ v, e = .returned v ∧ Below w.heap.size w w' ∧ Φ i v w') : o.wp P b w (PhiPost w Φ i b o.dst) NoQ := by
  unfold Oper.wp; rw [h]
  simp only [Oper.upon]
  refine hc.mono ?_
  rintro e w' ⟨v, rfl, hb, hv⟩
  exact ⟨v, rfl, hb, hv⟩
/-- the facts of a table: a value for each operation, but for those with a property of their own -/
def phiT (ev : Nat → Option Value) (Ψ : Nat → Value → World → Prop) (i : Nat) (v : Value) (w : World) : Prop := match ev i with | some u => v = u | none => Ψ i v w
end
end Go.Proofs.YtlbihllmpbhhcaaDoor

namespace Go.Proofs.YtlbihllmpbhhcaaDoor
open Go.RowKit
set_option linter.unusedVariables false

/-- every operation before the last is needed by a later one -/
def needB (ops : Array Oper) (n : Nat) : Bool := (List.range n).all fun i => (List.range (n + 1)).any fun j => decide (i < j) && (depsAt ops j).contains i
theorem need_all {ops : Array Oper} {n : Nat} (h : needB ops n = true) {D : Nat → Bool} (hcl : ∀ j, D j = true → ∀ k ∈ depsAt ops j, D k = true) (hn : D n = true) : ∀ q i, i ≤ n → n - i ≤ q → D i = true := by
  intro q
  induction q with
  | zero => intro i h1 h2; obtain rfl : i = n := by omega
            exact hn
  | succ q ih =>
    intro i h1 h2
    by_cases e : i = n
    · rw [e]; exact hn
    · have h3 := List.all_eq_true.1 h i (by simp; omega)
      obtain ⟨j, hj, h4⟩ := List.any_eq_true.1 h3
      simp only [Bool.and_eq_true, decide_eq_true_eq, List.contains_iff_mem] at h4
      simp only [List.mem_range] at hj
      exact hcl j (ih j (by omega) (by omega)) i h4.2

section
variable {P : Program} {Q : Exit → Act → World → Prop}
/-- behind one operation of the table -/
def TabPost (w : World) (ev : Nat → Value) (S : World → World) (n i : Nat) (b : Act) (d : Option Tmp) (a' : Act) (w' : World) : Prop := a' = b.put d (ev i) ∧ ∃ m, w' = if i = n then S (w.drewN m) else w.drewN m
/-- what the frame holds before operation o -/
def Tabs (l : List Oper) (ev : Nat → Value) (a : Act) (o : Oper) (b : Act) : Prop :=
  ∀ t : Nat, (match (dstOf l.toArray).idxOf? (some t) with | some j => (deps o).contains j | none => true) = true → b.tmps[t]?.getD undef = look (dstOf l.toArray) ev a t
def TabI (w : World) (ev : Nat → Value) (S : World → World) (n : Nat) (D : Nat → Bool) (x : Nat → Value) (W : World) : Prop :=
  (∀ i, D i = true → x i = ev i) ∧ ∃ m, W = if D n = true then S (w.drewN m) else w.drewN m
theorem wp_region_table {id : Nat} {l : List Oper} {a : Act} {w : World} (n : Nat) (hm : P.follows .mixedOrders = true) (hd : apartD (dstOf l.toArray) = true) (hb : backD l.toArray = true) (hg : l.all (fun o => o.guard.isNone) = true) (hn : inD a.tmps.size (dstOf l.toArray) = true)
    (hlen : l.length = n + 1) (hneed : needB l.toArray n = true) (ev : Nat → Value) (S : World → World)
    (hstep : AllOps (fun i o => ∀ m (b : Act), Tabs l ev a o b → o.wp P b (w.drewN m) (TabPost w ev S n i b o.dst) NoQ) 0 l)
    (hend : ∀ m, Q .normal (putAll (dstOf l.toArray) 0 ev a) (S (w.drewN m))) : (Code.region id l.toArray true).wp P Q a w := by
  refine wp_region_factsU hm hd hb hg hn (TabI w ev S n) (fun x => ⟨fun i h => Bool.noConfusion h, 1, rfl⟩) ?_ ?_
  · have key : ∀ k o, l[k]? = some o → ∀ D x W (b : Act), TabI w ev S n D x W → D k = false → (∀ j ∈ deps o, D j = true) → (∀ j, D j = true → ∀ q ∈ depsAt l.toArray j, D q = true) → (∀ t : Nat, b.tmps[t]?.getD undef = look (dstOf l.toArray) x a t) → o.wp P b W (StepPost (TabI w ev S n) D x k b o.dst) NoQ := by
      intro k o ho D x W b hI hD hdep hcl hbt
      have hk : k ≤ n := by have := (List.getElem?_eq_some_iff.1 ho).1; omega
      have hDn : D n = false := by
        cases h : D n with
        | false => rfl
        | true => have := need_all hneed hcl h _ k hk (Nat.le_refl _); rw [this] at hD; cases hD
      obtain ⟨hx, m, hW⟩ := hI
      rw [hDn] at hW
      simp only [Bool.false_eq_true, if_false] at hW
      subst hW
      have hs := hstep.get _ _ k o ho m b (fun t ht => by
        rw [hbt t]
        unfold look
        cases hq : (dstOf l.toArray).idxOf? (some t) with
        | none => rfl
        | some j =>
          rw [hq] at ht
          simp only [List.contains_iff_mem] at ht
          exact hx j (hdep j ht))
      rw [Nat.zero_add] at hs
      refine Oper.wp_mono ?_ hs
      rintro a' w' ⟨rfl, m', hw'⟩
      refine ⟨ev k, rfl, fun i hi => ?_, m', ?_⟩
      · by_cases e : i = k
        · subst e; simp
        · rw [upd_ne _ _ e] at hi ⊢; exact hx i hi
      · rw [hw']
        by_cases e : k = n
        · subst e; simp
        · rw [if_neg e, upd_ne _ _ (fun h => e h.symm), hDn]; simp
    have aux : ∀ (r : List Oper) (s : Nat), (∀ k, r[k]? = l[s + k]?) → AllOps (fun i o => ∀ D x W (b : Act), TabI w ev S n D x W → D i = false → (∀ j ∈ deps o, D j = true) → (∀ j, D j = true → ∀ q ∈ depsAt l.toArray j, D q = true) → (∀ t : Nat, b.tmps[t]?.getD undef = look (dstOf l.toArray) x a t) → o.wp P b W (StepPost (TabI w ev S n) D x i b o.dst) NoQ) s r := by
      intro r
      induction r with
      | nil => intro s _; trivial
      | cons o r ih =>
        intro s hr
        refine ⟨key s o (by have := hr 0; simpa using this.symm), ih (s + 1) (fun k => ?_)⟩
        have := hr (k + 1)
        rw [List.getElem?_cons_succ] at this
        rw [this]; congr 1; omega
    exact aux l 0 (fun k => by rw [Nat.zero_add])
  · intro D x W hI hall
    obtain ⟨hx, m, hW⟩ := hI
    have hDn := hall n (by omega)
    rw [hDn] at hW
    simp only [if_true] at hW
    subst hW
    have : putAll (dstOf l.toArray) 0 x a = putAll (dstOf l.toArray) 0 ev a := putAll_congr _ _ _ _ _ (fun j _ h2 => hx j (hall j (by simpa [dstOf] using h2)))
    rw [this]
    exact hend m
variable {w : World} {ev : Nat → Value} {S : World → World} {n i m : Nat} {b : Act} {o : Oper}
theorem tab_run (hi : i ≠ n) (v : Value) (hv : ev i = v) (h : (execOp b.eval o).run P (w.drewN m) = .ok (.value v) (w.drewN m)) : o.wp P b (w.drewN m) (TabPost w ev S n i b o.dst) NoQ := by
  unfold Oper.wp; rw [h]; exact ⟨by rw [hv], m, by rw [if_neg hi]⟩
theorem tab_store (v : Value) (hv : ev n = v) (W : World) (hW : W = S (w.drewN m)) (h : (execOp b.eval o).run P (w.drewN m) = .ok .skip W) (hu : v = undef) : o.wp P b (w.drewN m) (TabPost w ev S n n b o.dst) NoQ := by
  unfold Oper.wp; rw [h]; exact ⟨by rw [hv, hu], m, by rw [if_pos rfl]; exact hW⟩
theorem tab_call (hi : i ≠ n) (v : Value) (hv : ev i = v) {f : FuncId} {args : Array Value} (h : (execOp b.eval o).run P (w.drewN m) = .ok (.enter f args) (w.drewN m)) (hc : Calls P f args (w.drewN m) fun e w' => ∃ q, e = .returned v ∧ w' = (w.drewN m).drewN q) : o.wp P b (w.drewN m) (TabPost w ev S n i b o.dst) NoQ := by
  unfold Oper.wp; rw [h]
  simp only [Oper.upon]
  refine hc.mono ?_
  rintro e w' ⟨q, rfl, rfl⟩
  exact ⟨by rw [hv], m + q, by rw [if_neg hi]; simp [World.drewN, Nat.add_assoc]⟩
end
end Go.Proofs.YtlbihllmpbhhcaaDoor
