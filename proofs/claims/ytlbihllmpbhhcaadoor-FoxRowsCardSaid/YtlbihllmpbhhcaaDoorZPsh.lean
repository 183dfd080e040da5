/- Fox derivatives of words: plain. -/
/- word.push, Reduce. -/
import Derived.Test.YtlbihllmpbhhcaaDoorZBase2
import Derived.Test.YtlbihllmpbhhcaaDoorZFce
import Derived.Test.YtlbihllmpbhhcaaDoorChecked
import Derived.Deep.LoopGhost
import Derived.Deep.DeepCutAuto
import Derived.Deep.Cut
namespace Go.Proofs.YtlbihllmpbhhcaaDoor
set_option linter.unusedVariables false

/-- degree of the generator of a letter -/
def cg (comp : List Int) (k : Int) : Int := comp[k.toNat]?.getD 0
def stepD (comp : List Int) (d x : Int) : Int := if 0 < x then d + cg comp (x - 1) else d - cg comp (-x - 1)
def degW (comp : List Int) : List Int → Int → Int
  | [], d => d
  | x :: w, d => degW comp w (stepD comp d x)
/-- the term of a letter, and its generator -/
def trm (comp : List Int) (d x : Int) : Int × Int := if 0 < x then (d, 1) else (d - cg comp (-x - 1), -1)
def gnr (x : Int) : Int := if 0 < x then x - 1 else -x - 1
/-- the terms of the derivative with respect to a generator, in order -/
def drv (comp : List Int) (g : Int) : List Int → Int → List (Int × Int)
  | [], _ => []
  | x :: w, d => (if gnr x = g then [trm comp d x] else []) ++ drv comp g w (stepD comp d x)
theorem drv_append (comp : List Int) (g : Int) (u v : List Int) (d : Int) : drv comp g (u ++ v) d = drv comp g u d ++ drv comp g v (degW comp u d) := by
  induction u generalizing d with
  | nil => rfl
  | cons x u ih => rw [List.cons_append, drv, drv, ih, List.append_assoc]; rfl
theorem degW_append (comp : List Int) (u v : List Int) (d : Int) : degW comp (u ++ v) d = degW comp v (degW comp u d) := by
  induction u generalizing d with
  | nil => rfl
  | cons x u ih => rw [List.cons_append, degW, degW, ih]
theorem stepD_add (comp : List Int) (d k x : Int) : stepD comp (d + k) x = stepD comp d x + k := by unfold stepD; split <;> omega
theorem degW_add (comp : List Int) (u : List Int) (d k : Int) : degW comp u (d + k) = degW comp u d + k := by
  induction u generalizing d with
  | nil => rfl
  | cons x u ih => rw [degW, degW, stepD_add, ih]
theorem degW_zero (comp : List Int) (u : List Int) (d : Int) : degW comp u d = degW comp u 0 + d := by
  have := degW_add comp u 0 d
  rwa [Int.zero_add] at this
theorem trm_add (comp : List Int) (d k x : Int) : trm comp (d + k) x = ((trm comp d x).1 + k, (trm comp d x).2) := by
  unfold trm
  split
  · rfl
  · show (d + k - _, -1) = (d - _ + k, -1)
    congr 1; omega
theorem cf_map_add (l : List (Int × Int)) (k e : Int) : cf (l.map fun t => (t.1 + k, t.2)) e = cf l (e - k) := by
  induction l with
  | nil => rfl
  | cons t l ih =>
    rw [List.map_cons, cf_cons, cf_cons, ih]
    by_cases h : t.1 + k = e
    · rw [if_pos h, if_pos (by omega)]
    · rw [if_neg h, if_neg (by omega)]
theorem drv_shift (comp : List Int) (g : Int) (w : List Int) (d k : Int) : drv comp g w (d + k) = (drv comp g w d).map fun t => (t.1 + k, t.2) := by
  induction w generalizing d with
  | nil => rfl
  | cons x w ih =>
    rw [drv, drv, stepD_add, ih, List.map_append, trm_add]
    congr 1
    split <;> rfl
/-- the derivative as a function -/
def dF (comp : List Int) (g : Int) (w : List Int) (e : Int) : Int := cf (drv comp g w 0) e
theorem cf_drv (comp : List Int) (g : Int) (w : List Int) (d e : Int) : cf (drv comp g w d) e = dF comp g w (e - d) := by
  have h := drv_shift comp g w 0 d
  rw [Int.zero_add] at h
  rw [h, cf_map_add]; rfl
def dg (comp : List Int) (w : List Int) : Int := degW comp w 0
theorem dF_append (comp : List Int) (g : Int) (u v : List Int) (e : Int) : dF comp g (u ++ v) e = dF comp g u e + dF comp g v (e - dg comp u) := by
  have h := cf_drv comp g v (degW comp u 0) e
  unfold dF dg at *
  rw [drv_append, cf_append, h]
theorem dg_append (comp : List Int) (u v : List Int) : dg comp (u ++ v) = dg comp u + dg comp v := by
  unfold dg; rw [degW_append, degW_zero]; omega
theorem dF_nil (comp : List Int) (g e : Int) : dF comp g [] e = 0 := rfl
theorem dg_nil (comp : List Int) : dg comp [] = 0 := rfl
theorem dF_one (comp : List Int) (g x e : Int) : dF comp g [x] e = if gnr x = g then (if 0 < x then (if e = 0 then 1 else 0) else (if e = - cg comp (-x - 1) then -1 else 0)) else 0 := by
  unfold dF
  rw [drv, drv, List.append_nil]
  split
  · rw [cf_one]
    unfold trm
    split
    · show (if (0 : Int) = e then (1 : Int) else 0) = _
      by_cases h : e = 0
      · rw [if_pos h, if_pos h.symm]
      · rw [if_neg h, if_neg (fun k => h k.symm)]
    · show (if (0 - cg comp (-x - 1) : Int) = e then (-1 : Int) else 0) = _
      by_cases h : e = - cg comp (-x - 1)
      · rw [if_pos h, if_pos (by omega)]
      · rw [if_neg h, if_neg (by omega)]
  · rfl
theorem dg_one (comp : List Int) (x : Int) : dg comp [x] = if 0 < x then cg comp (x - 1) else - cg comp (-x - 1) := by
  show stepD comp 0 x = _
  unfold stepD
  split <;> omega
/-- x behind its inverse -/
theorem dg_inv (comp : List Int) {x : Int} (hx : x ≠ 0) : dg comp [-x] = - dg comp [x] := by
  rw [dg_one, dg_one]
  by_cases h : 0 < x
  · rw [if_neg (by omega), if_pos h, Int.neg_neg]
  · rw [if_pos (by omega), if_neg h, Int.neg_neg]
theorem dF_pair (comp : List Int) (g : Int) {x : Int} (hx : x ≠ 0) (e : Int) : dF comp g [x, -x] e = 0 := by
  rw [show [x, -x] = [x] ++ [-x] from rfl, dF_append, dF_one, dF_one, dg_one]
  have hg : gnr (-x) = gnr x := by unfold gnr; split <;> split <;> omega
  rw [hg]
  by_cases hgg : gnr x = g
  · rw [if_pos hgg, if_pos hgg]
    by_cases h : 0 < x
    · have hn : ¬ 0 < -x := by omega
      simp only [h, hn, if_true, if_false, Int.neg_neg]
      split <;> split <;> omega
    · have hn : 0 < -x := by omega
      simp only [h, hn, if_true, if_false]
      split <;> split <;> omega
  · rw [if_neg hgg, if_neg hgg]; rfl
/-- pushing a letter onto a reduced word -/
def psh (s : List Int) (x : Int) : List Int := if s.getLast? = some (-x) then s.dropLast else s ++ [x]
theorem getLast_form {s : List Int} {y : Int} (h : s.getLast? = some y) : s = s.dropLast ++ [y] := by
  obtain ⟨r, rfl⟩ := List.getLast?_eq_some_iff.1 h
  simp
theorem dF_psh (comp : List Int) (g : Int) (s : List Int) {x : Int} (hx : x ≠ 0) (e : Int) : dF comp g (psh s x) e = dF comp g (s ++ [x]) e := by
  unfold psh
  split
  · next h =>
    have h1 := getLast_form h
    have h2 : s ++ [x] = s.dropLast ++ [-x, x] := by
      conv => lhs; rw [h1]
      rw [List.append_assoc]; rfl
    have h3 := dF_pair comp g (x := -x) (by omega)
    rw [Int.neg_neg] at h3
    rw [h2, dF_append, h3]; omega
  · rfl
theorem dg_psh (comp : List Int) (s : List Int) {x : Int} (hx : x ≠ 0) : dg comp (psh s x) = dg comp (s ++ [x]) := by
  unfold psh
  split
  · next h =>
    have h1 := getLast_form h
    have h2 : s ++ [x] = s.dropLast ++ ([-x] ++ [x]) := by
      conv => lhs; rw [h1]
      rw [List.append_assoc]
    rw [h2, dg_append, dg_append, dg_inv comp hx]; omega
  · rfl
/-- pushing letters -/
def pshL (s l : List Int) : List Int := l.foldl psh s
theorem pshL_cons (s : List Int) (x : Int) (l : List Int) : pshL s (x :: l) = pshL (psh s x) l := rfl
theorem pshL_snoc (s l : List Int) (x : Int) : pshL s (l ++ [x]) = psh (pshL s l) x := by unfold pshL; rw [List.foldl_append]; rfl
theorem dgF_pshL (comp : List Int) (g : Int) : ∀ (l s : List Int), (∀ x ∈ l, x ≠ 0) → dg comp (pshL s l) = dg comp (s ++ l) ∧ ∀ e, dF comp g (pshL s l) e = dF comp g (s ++ l) e
  | [], s, _ => by rw [List.append_nil]; exact ⟨rfl, fun _ => rfl⟩
  | x :: l, s, h => by
    have hx := h x (List.mem_cons_self ..)
    obtain ⟨h1, h2⟩ := dgF_pshL comp g l (psh s x) (fun y hy => h y (List.mem_cons_of_mem _ hy))
    have e1 : s ++ x :: l = (s ++ [x]) ++ l := by rw [List.append_assoc]; rfl
    rw [pshL_cons]
    refine ⟨?_, fun e => ?_⟩
    · rw [h1, dg_append, dg_psh comp s hx, e1, dg_append comp (s ++ [x]) l]
    · rw [h2, dF_append, dF_psh comp g s hx, dg_psh comp s hx, e1, dF_append comp g (s ++ [x]) l]
/-- the inverse word -/
def invW (w : List Int) : List Int := (w.map fun x => -x).reverse
theorem invW_cons (x : Int) (w : List Int) : invW (x :: w) = invW w ++ [-x] := by unfold invW; rw [List.map_cons, List.reverse_cons]
theorem invW_ne {w : List Int} (h : ∀ x ∈ w, x ≠ 0) : ∀ x ∈ invW w, x ≠ 0 := fun x hx => by
  unfold invW at hx
  rw [List.mem_reverse, List.mem_map] at hx
  obtain ⟨y, hy, rfl⟩ := hx
  have := h y hy; omega
theorem w_invW (comp : List Int) (g : Int) : ∀ (w : List Int), (∀ x ∈ w, x ≠ 0) → dg comp (w ++ invW w) = 0 ∧ ∀ e, dF comp g (w ++ invW w) e = 0
  | [], _ => ⟨rfl, fun _ => rfl⟩
  | x :: w, h => by
    have hx := h x (List.mem_cons_self ..)
    obtain ⟨h1, h2⟩ := w_invW comp g w (fun y hy => h y (List.mem_cons_of_mem _ hy))
    have e1 : (x :: w) ++ invW (x :: w) = [x] ++ ((w ++ invW w) ++ [-x]) := by rw [invW_cons]; simp
    have e2 : [x] ++ [-x] = [x, -x] := rfl
    rw [e1]
    refine ⟨?_, fun e => ?_⟩
    · rw [dg_append, dg_append, h1, dg_inv comp hx]; omega
    · have h3 := dF_pair comp g hx e
      rw [← e2, dF_append] at h3
      rw [dF_append, dF_append, h2, h1]
      rw [Int.sub_zero]; omega
theorem dF_invW (comp : List Int) (g : Int) {w : List Int} (h : ∀ x ∈ w, x ≠ 0) (e : Int) : dF comp g (invW w) e = - dF comp g w (e + dg comp w) := by
  have h1 := (w_invW comp g w h).2 (e + dg comp w)
  rw [dF_append] at h1
  rw [show e + dg comp w - dg comp w = e by omega] at h1
  omega
theorem dg_invW (comp : List Int) {w : List Int} (h : ∀ x ∈ w, x ≠ 0) : dg comp (invW w) = - dg comp w := by
  have h1 := (w_invW comp 0 w h).1
  rw [dg_append] at h1; omega
/-- bounds -/
theorem drv_len (comp : List Int) (g : Int) (w : List Int) (d : Int) : (drv comp g w d).length ≤ w.length := by
  induction w generalizing d with
  | nil => exact Nat.le_refl _
  | cons x w ih =>
    rw [drv, List.length_append, List.length_cons]
    have := ih (stepD comp d x)
    split <;> simp <;> omega
theorem cg_bd {comp : List Int} {N : Int} (hN : 0 ≤ N) (h : ∀ c ∈ comp, -N ≤ c ∧ c ≤ N) (k : Int) : -N ≤ cg comp k ∧ cg comp k ≤ N := by
  unfold cg
  cases hc : comp[k.toNat]? with
  | none => show -N ≤ 0 ∧ 0 ≤ N; omega
  | some c => exact h c (List.mem_of_getElem? hc)
theorem drv_bd {comp : List Int} {N : Int} (hN : 0 ≤ N) (h : ∀ c ∈ comp, -N ≤ c ∧ c ≤ N) (g : Int) (w : List Int) : ∀ (d : Int) (t : Int × Int), t ∈ drv comp g w d → (t.2 = 1 ∨ t.2 = -1) ∧ d - N * w.length ≤ t.1 ∧ t.1 ≤ d + N * w.length := by
  induction w with
  | nil => intro d t ht; cases ht
  | cons x w ih =>
    intro d t ht
    have e1 : N * ((x :: w).length : Int) = N * w.length + N := by rw [List.length_cons, Int.natCast_add, Int.mul_add]; simp
    have hm : 0 ≤ N * (w.length : Int) := Int.mul_nonneg hN (by omega)
    rw [drv] at ht
    rw [e1]
    rcases List.mem_append.1 ht with ht | ht
    · split at ht
      · rw [List.mem_singleton.1 ht]
        have h2 := cg_bd hN h (-x - 1)
        unfold trm
        split
        · exact ⟨.inl rfl, by show d - _ ≤ d; omega, by show d ≤ _; omega⟩
        · exact ⟨.inr rfl, by show d - _ ≤ d - cg comp _; omega, by show d - cg comp _ ≤ _; omega⟩
      · cases ht
    · have h1 := ih _ t ht
      have h2 := cg_bd hN h (x - 1)
      have h3 := cg_bd hN h (-x - 1)
      have h4 : d - N ≤ stepD comp d x ∧ stepD comp d x ≤ d + N := by unfold stepD; split <;> omega
      omega
end Go.Proofs.YtlbihllmpbhhcaaDoor

namespace Go.Proofs.YtlbihllmpbhhcaaDoor
open Go.RowKit
set_option linter.unusedVariables false

/-- all old blocks but the slice's own are as they were -/
def KeepX (v : Value) (w W : World) : Prop := ∀ g, g < w.heap.size → v.ownBlock ≠ some g → W.heap[g]? = w.heap[g]?
theorem KeepX.refl (v : Value) (w : World) : KeepX v w w := fun _ _ _ => rfl
theorem KeepX.alloc {v : Value} {w W : World} (h : KeepX v w W) (hs : w.heap.size ≤ W.heap.size) (o : Obj) : KeepX v w (W.alloc o) := fun g hg hv => (Below.heap_alloc W o g (by omega)).trans (h g hg hv)
theorem KeepX.drewN {v : Value} {w W : World} (h : KeepX v w W) (n : Nat) : KeepX v w (W.drewN n) := h
theorem Ints.keepW {w W : World} {v : Value} {xs : List Int} (h : Ints w v xs) (hk : ∀ b, b < w.heap.size → W.heap[b]? = w.heap[b]?) : Ints W v xs := by
  refine h.keep fun b o hb => ?_
  unfold World.cell?
  rw [hk b hb]
/-- where a slice of the call's own lies, after it was appended to -/
def Moved (v v' : Value) (N : Nat) : Prop := v'.ownBlock = v.ownBlock ∨ ∀ g, v'.ownBlock = some g → N ≤ g
theorem KeepX.step {v u : Value} {w W W' : World} (h : KeepX v w W) (hs : w.heap.size ≤ W.heap.size) (hm : Moved v u w.heap.size) (hk : ∀ k, k < W.heap.size → u.ownBlock ≠ some k → W'.heap[k]? = W.heap[k]?) : KeepX v w W' := fun g hg hv =>
  (hk g (by omega) (fun e => by
    rcases hm with q | q
    · exact hv (q ▸ e)
    · have := q g e; omega)).trans (h g hg hv)
theorem Moved.step {v u u' : Value} {N M : Nat} (h : Moved v u N) (hM : N ≤ M) (k : u'.ownBlock = u.ownBlock ∨ u'.ownBlock = some M) : Moved v u' N := by
  rcases k with k | k
  · unfold Moved; rw [k]; exact h
  · exact .inr fun g e => by rw [k] at e; injection e with e; omega
theorem wpList_appIx {P : Program} {w : World} {e : TypeId} {base : Nat} {v : Value} {xs : List Int} {ops : Array Oper} {rest : List Oper} {o : Oper} {a : Act} {Q : Exit → Act → World → Prop} (hgd : o.guard = none) (s x : Operand) (t : TypeId) (ho : o.op = .call { callee := .builtin .append, args := #[s, x], argTypes := #[t, t] })
    {i : TypeInfo} (ht : P.underlying t = some (.slice e)) (hi : P.info? e = some i) (hz : i.zero = some (.int .i64 0)) (hs : i.size = 1) (hby : i.bytes = 8)
    (hv : a.eval s = v) (h : OwnI e base w v xs) {b : Nat} {y : Int} (hx : a.eval x = .slice (some ⟨b, 0, none⟩) 1 1) (hu : w.cell? ⟨b, 0, none⟩ = some (.int .i64 y)) (hlen : xs.length ≤ 100000000) (hbase : base ≤ w.heap.size)
    (hK : ∀ v' w', OwnI e base w' v' (xs ++ [y]) → Below base w w' → (∀ k, k < w.heap.size → v.ownBlock ≠ some k → w'.heap[k]? = w.heap[k]?) → (v'.ownBlock = v.ownBlock ∨ v'.ownBlock = some w.heap.size) → wpList P ops Q rest (a.put o.dst v') w') : wpList P ops Q (o :: rest) a w := by
  have hcells : ∀ j q, ([Value.int .i64 y])[j]? = some q → w.cell? ((⟨b, 0, none⟩ : Addr).add j) = some q := by
    intro j q hq
    cases j with
    | zero => injection hq with hq; subst hq; exact hu
    | succ j => simp at hq
  obtain ⟨v', w', hrun, h2, h3, _, h5⟩ := run_append_own_at (P := P) w base t o.type e i (.int .i64 0) 1 8 ht hi hz hs hby rfl (by decide) v xs.length (xs.map (Value.int .i64)) h ⟨b, 0, none⟩ 1 1 [.int .i64 y] rfl hcells
    (by intro q hq; simp at hq; subst hq; rfl) (by unfold maxLen; omega) (by omega) hbase
  refine wpList_plain hgd fun _ hk => ?_
  unfold Oper.wp execOp
  simp only [ho, resolve, invoke, builtin, Sem.run_bind, Sem.run_pure, Result.andThen_ok, List.map_toArray, List.map_cons, List.map_nil, hv, hx, hrun]
  refine hk _ _ (hK v' w' ?_ ((Below.refl _ _).grown h3 hbase h.block) (fun k hk hne => h3.block k hk (fun e => hne e.symm)) h5)
  unfold OwnI
  rw [List.length_append, List.map_append]
  simpa using h2
theorem OwnI.pop {e : TypeId} {base n g : Nat} {c : Nat} {w : World} {r : List Int} {y : Int} (h : OwnI e base w (.slice (some ⟨g, 0, none⟩) (n + 1) c) (r ++ [y])) (hn : r.length = n) : OwnI e base w (.slice (some ⟨g, 0, none⟩) n c) r := by
  subst hn
  refine ⟨by simp, ?_⟩
  rcases h.2 with ⟨h1, _⟩ | ⟨g', cap, cur, h1, h2, h3, h4, h5, h6, h7⟩
  · cases h1
  · injection h1 with e1 e2 e3
    injection e1 with e1
    injection e1 with e1
    subst e1 e3
    refine .inr ⟨g, c, cur, rfl, h2, h3, by simp at h4; omega, h5, h6, ?_⟩
    have : cur.toList.take (r.length * 1) = (cur.toList.take ((r ++ [y]).length * 1)).take (r.length * 1) := by
      rw [List.take_take, Nat.min_eq_left]; simp
    rw [this, h7, List.map_append, List.take_append_of_le_length (by simp), List.take_of_length_le (by simp)]
theorem OwnI.last {e : TypeId} {base : Nat} {w : World} {v : Value} {r : List Int} {y : Int} (h : OwnI e base w v (r ++ [y])) : ∃ g c, v = .slice (some ⟨g, 0, none⟩) (r.length + 1) c ∧ r.length + 1 ≤ c ∧ c ≤ 9223372036854775807 ∧ base ≤ g ∧ g < w.heap.size ∧ w.cell? ⟨g, r.length, none⟩ = some (.int .i64 y) := by
  have h9 := h.ints
  rcases h.2 with ⟨h1, h0⟩ | ⟨g', cap, cur, rfl, h2, h3, h4, h5, h6, h7⟩
  · simp at h0
  · obtain ⟨b, o, hA, hlt, hc⟩ := h9.at_ (k := r.length) (by simp)
    injection hA with hA
    injection hA with hA hB
    subst hA hB
    refine ⟨g', cap, by simp, by simpa using h4, h5, h2, hlt, ?_⟩
    rw [Nat.zero_add] at hc
    simpa using hc
theorem psh_len (s : List Int) (x : Int) : (psh s x).length ≤ s.length + 1 := by
  unfold psh
  split <;> simp <;> omega
theorem pshL_len (ls : List Int) : ∀ s, (pshL s ls).length ≤ s.length + ls.length := by
  induction ls with
  | nil => intro s; exact Nat.le_refl _
  | cons x ls ih => intro s; rw [pshL_cons]; have := ih (psh s x); have := psh_len s x; simp; omega
theorem psh_nil (x : Int) : psh [] x = [] ++ [x] := rfl
theorem psh_pop (r : List Int) (x : Int) : psh (r ++ [-x]) x = r := by unfold psh; simp
theorem psh_add (r : List Int) {x y : Int} (h : y ≠ -x) : psh (r ++ [y]) x = (r ++ [y]) ++ [x] := by unfold psh; simp [h]
theorem info_intQ : (Tryd.prog.info? 3).map (fun i => (i.zero, i.size, i.bytes)) = some (some (.int .i64 0), 1, 8) := by kernel_rfl
theorem ints_atZ {w : World} {v : Value} {xs : List Int} {k : Nat} (h : Ints w v xs) (hk : k < xs.length) : ∃ b o, (∃ c, v = .slice (some ⟨b, o, none⟩) xs.length c) ∧ b < w.heap.size ∧ w.cell? ⟨b, o + k, none⟩ = some (.int .i64 xs[k]) := by
  obtain ⟨A, c, rfl, _, hx⟩ := h
  obtain ⟨b, o, rfl, hc⟩ := hx k xs[k] (List.getElem?_eq_getElem hk)
  exact ⟨b, o, ⟨c, rfl⟩, block_lt_of_cell hc, hc⟩
theorem take_snocZ {l : List Int} {i : Nat} (h : i < l.length) : l.take (i + 1) = l.take i ++ [l[i]] := by
  rw [List.take_add_one, List.getElem?_eq_getElem h]; rfl
/-- the state of push's loop -/
structure PSt (base : Nat) (v : Value) (w : World) (u : Value) (st : List Int) (W : World) : Prop where
  own : OwnI 3 base W u st
  bel : Below base w W
  kx : KeepX v w W
  mv : Moved v u w.heap.size
  sz : w.heap.size ≤ W.heap.size
theorem PSt.app {base : Nat} {v u v' : Value} {w W w1 : World} {st : List Int} {x : Int} {ob : Obj} (h : PSt base v w u st W) (hb : base ≤ w.heap.size) (h1 : OwnI 3 base w1 v' (st ++ [x])) (h2 : Below base (W.alloc ob) w1)
    (h3 : ∀ k, k < (W.alloc ob).heap.size → u.ownBlock ≠ some k → w1.heap[k]? = (W.alloc ob).heap[k]?) (h4 : v'.ownBlock = u.ownBlock ∨ v'.ownBlock = some (W.alloc ob).heap.size) : PSt base v w v' (st ++ [x]) w1 :=
  have hs : w.heap.size ≤ (W.alloc ob).heap.size := by have := h.sz; simp; omega
  ⟨h1, (h.bel.alloc (Nat.le_trans hb h.sz) ob).trans h2, (h.kx.alloc h.sz ob).step hs h.mv h3, h.mv.step hs h4, Nat.le_trans hs h2.size⟩
theorem PSt.pop {base m g c : Nat} {v : Value} {w W : World} {r : List Int} {y : Int} (h : PSt base v w (.slice (some ⟨g, 0, none⟩) (m + 1) c) (r ++ [y]) W) (hm : r.length = m) : PSt base v w (.slice (some ⟨g, 0, none⟩) m c) r W := ⟨h.own.pop hm, h.bel, h.kx, h.mv, h.sz⟩
set_option maxHeartbeats 2000000 in
set_option maxRecDepth 100000 in
theorem push_any (base : Nat) (v vl : Value) (s ls : List Int) (w : World) (ho : OwnI 3 base w v s) (hl : ∀ W, KeepX v w W → Ints W vl ls) (hb : base ≤ w.heap.size) (hlen : s.length + ls.length ≤ 1000000) (hx : ∀ x ∈ ls, -1000000000 ≤ x ∧ x ≤ 1000000000) :
    Calls Tryd.prog 44 #[v, vl] w fun e w' => ∃ v', e = .returned v' ∧ PSt base v w v' (pshL s ls) w' := by
  obtain ⟨i0, hi, hz0, hz1, hz2⟩ := info_parts info_intQ
  have HL := Lib.hid hl
  have HX := Lib.hid hx
  obtain ⟨A2, c2, rfl, _, _⟩ := hl w (KeepX.refl _ _)
  obtain ⟨R, hR⟩ : ∃ R, R = pshL s ls := ⟨_, rfl⟩
  rw [← hR]
  have HR := Lib.hid hR
  have hst : PSt base v w v s w := ⟨ho, Below.refl _ _, KeepX.refl _ _, .inl rfl, Nat.le_refl _⟩
  have HI := Lib.hid hi
  have HZ0 := Lib.hid hz0
  have HZ1 := Lib.hid hz1
  have HZ2 := Lib.hid hz2
  clear hl hx hR ho hi hz0 hz1 hz2
  go_enter Tryd.func44, Tryd.ntmps44
  go_wp2_with fail
  go_loopg [0, 6, 7, 10] ls.length (fun gk s0 s6 s7 s10 wr => ∃ k : Nat, k ≤ ls.length ∧ gk = ls.length - k ∧ s10 = .int .i64 (k : Int) ∧ PSt base v w s0 (pshL s (ls.take k)) wr)
  case atStart => exact ⟨0, Nat.zero_le _, rfl, rfl, hst⟩
  case round =>
    clear hst
    obtain ⟨k, hk, rfl, rfl, hst⟩ := hrel
    by_cases hlt : k < ls.length
    · have z1 : (k : Int) < (ls.length : Int) := by omega
      obtain ⟨b, o, ⟨c', hv⟩, _, hcell⟩ := ints_atZ (HL.out wr hst.kx) hlt
      injection hv with hv1 hv2 hv3
      subst hv1 hv3
      clear hv2
      have hxk := HX.out ls[k] (List.getElem_mem hlt)
      have HP := Lib.hid (show pshL s (ls.take (k + 1)) = psh (pshL s (ls.take k)) ls[k] from by rw [take_snocZ hlt, pshL_snoc])
      have hsl : (pshL s (ls.take k)).length ≤ 1000000 := by have h1 := pshL_len (ls.take k) s; have h2 : (ls.take k).length ≤ k := List.length_take_le _ _; omega
      generalize ls[k] = x at *
      generalize pshL s (ls.take k) = st at *
      rcases List.eq_nil_or_concat st with rfl | ⟨r, y, rfl⟩
      · obtain ⟨A, c, rfl⟩ := hst.own.form
        simp only [List.length_nil] at *
        have HST := Lib.hid hst
        have hc1 := World.cell?_alloc_new wr #[.int .i64 x] 3 0
        have hsz := Nat.le_trans hb hst.sz
        clear hst hsl
        go_wp2_with (at_builtin; refine wpList_appIx rfl _ _ 42 rfl Tryd.underlying42 HI.out HZ0.out HZ1.out HZ2.out rfl (HST.out.own.alloc _) (b := wr.heap.size) (y := x) rfl (by simp [go_sem]) (by simp) (by simp; omega) ?_; intro v' w1 hown1 hbel1 hkx1 hmv1)
        have hst1 := PSt.app HST.out hb hown1 hbel1 hkx1 hmv1
        have HST1 := Lib.hid hst1
        clear hst1 hown1 hbel1 hkx1 hmv1 HST
        go_wp2_with fail
        go_roundg (ls.length - (k + 1))
        case measure => omega
        case rel => exact ⟨k + 1, by omega, rfl, by go_num, by rw [HP.out]; exact HST1.out⟩
      · simp only [List.concat_eq_append] at *
        obtain ⟨g, c, rfl, hgc, hgc2, hbg, hgl, y0⟩ := hst.own.last
        have hrl : r.length ≤ 1000000 := by simp at hsl; omega
        obtain ⟨m, hm⟩ : ∃ m, m = r.length := ⟨_, rfl⟩
        rw [← hm] at hgc y0 hrl hst ⊢
        have HST := Lib.hid hst
        have HM := Lib.hid hm
        have hsz := Nat.le_trans hb hst.sz
        have z2 : ((m : Int) + 1 - 1) = (m : Int) := by omega
        have z3 : (m : Int) < (m : Int) + 1 := by omega
        have z4 : (m : Int) ≤ (c : Int) := by omega
        have z5 : ((m + 1 : Nat) : Int) = (m : Int) + 1 := by omega
        clear hst hsl hm
        by_cases hyx : y = -x
        · have z6 : (y == -x) = true := by simp [hyx]
          have HQ := Lib.hid (show psh (r ++ [y]) x = r from by rw [hyx]; exact psh_pop r x)
          have HST1 := Lib.hid (HST.out.pop HM.out.symm)
          clear hyx
          go_wp2_with fail
          go_roundg (ls.length - (k + 1))
          case measure => omega
          case rel => exact ⟨k + 1, by omega, rfl, by go_num, by rw [HP.out, HQ.out]; exact HST1.out⟩
        · have z6 : (y == -x) = false := by simp [hyx]
          have HQ := Lib.hid (show psh (r ++ [y]) x = (r ++ [y]) ++ [x] from psh_add r hyx)
          have HLN := Lib.hid (show (r ++ [y]).length ≤ 100000000 from by rw [List.length_append, ← HM.out]; simp; omega)
          clear hyx
          go_wp2_with (at_builtin; refine wpList_appIx rfl _ _ 42 rfl Tryd.underlying42 HI.out HZ0.out HZ1.out HZ2.out rfl (HST.out.own.alloc _) (b := wr.heap.size) (y := x) rfl (by simp [go_sem]) HLN.out (by simp; omega) ?_; intro v' w1 hown1 hbel1 hkx1 hmv1)
          have hst1 := PSt.app HST.out hb hown1 hbel1 hkx1 hmv1
          have HST1 := Lib.hid hst1
          clear hst1 hown1 hbel1 hkx1 hmv1 HST
          go_wp2_with fail
          go_roundg (ls.length - (k + 1))
          case measure => omega
          case rel => exact ⟨k + 1, by omega, rfl, by go_num, by rw [HP.out, HQ.out]; exact HST1.out⟩
    · have z1 : ¬ (k : Int) < (ls.length : Int) := by omega
      have HE := Lib.hid (show R = pshL s (ls.take k) from by rw [HR.out, List.take_of_length_le (by omega)])
      go_wp2_with fail
      go_ret
      exact ⟨_, rfl, by rw [HE.out]; exact hst⟩
end Go.Proofs.YtlbihllmpbhhcaaDoor
