/- A range over a function whose iterator tells the body what it hands over (facts on memory at the time of the yield). -/
/- The marks that ranges over functions leave among the deferred calls. -/
import Derived.Test.YteliflcbegcdlaaGreatDoorWwBase2
import Derived.RangeFuncNested
import Derived.RangeFuncBound
import Derived.RangeFuncCalls
import Derived.RangeFuncLeaves
import Derived.RangeFuncWrites
namespace Go.Proofs.YteliflcbegcdlaaGreatDoor
open Go.RowKit
set_option linter.unusedVariables false
/-- the iterator gf hands over m pairs of values; of the k-th it tells Rd k; Kp is what a round must keep; the loop's record is l -/
def Tells (P : Program) (n gf : Nat) (lb : Array Value) (m : Nat) (Rd : Nat → Value → Value → World → Prop) (Kp : World → World → Prop) (l : Nat) (W0 : World) : Prop :=
  ∀ (J : Nat → World → Prop) (Jx : World → Prop),
    (∀ k A B, J k A → Below A.heap.size A B → J k B) → (∀ A B, Jx A → Below A.heap.size A B → Jx B) →
    (∀ k v u W, k < m → J k W → Rd k v u W → YieldAt Fence.wide (n - 1) P l #[v, u] W fun e W' =>
      (e = .returned (.bool true) ∧ J (k + 1) W' ∧ Kp W W') ∨ (e = .returned (.bool false) ∧ Jx W')) →
    J 0 W0 → CallsIn Fence.wide n P gf (#[.func (.yield l) #[] #[]] ++ lb) W0 fun e W' => (∃ v, e = .returned v) ∧ (J m W' ∨ Jx W')
/-- block l holds a loop's record -/
def Lp (l : Nat) (A : World) : Prop := ∃ r, A.heap[l]? = some (.loop r)
theorem Lp.ne {l b : Nat} {A : World} (h : Lp l A) {i : Nat} {v : Value} (k : A.cell? ⟨b, i, none⟩ = some v) : b ≠ l := by
  rintro rfl
  obtain ⟨r, h⟩ := h
  unfold World.cell? at k
  rw [h] at k; cases k
section
variable {P : Program} {n : Nat}
/-- the record of a loop -/
def rec6 (fn : FuncId) (tmps : Array Value) (ps : Array Tmp) (assign body : Code) (D : Nat) (st : LoopState) (pe : Option Code) : Loop :=
  { state := st, pending := pe, fn := fn, tmps := tmps, params := ps, assign := assign, body := body, defers := D }
/-- the loop's two blocks: the mark of its deferred calls, the record -/
structure Two6 (D : Nat) (r : Loop) (W : World) : Prop where
  mark : W.heap[D]? = some (.deferred (some []))
  lrec : W.heap[D + 1]? = some (.loop r)
theorem Two6.below {D : Nat} {r : Loop} {A B : World} (h : Two6 D r A) (hb : Below A.heap.size A B) : Two6 D r B :=
  ⟨(hb.block D (Array.getElem?_eq_some_iff.1 h.mark).1).trans h.mark, (hb.block (D + 1) (Array.getElem?_eq_some_iff.1 h.lrec).1).trans h.lrec⟩
theorem Two6.put {D : Nat} {r r' : Loop} {A : World} (h : Two6 D r A) : Two6 D r' (A.putObj (D + 1) (.loop r')) :=
  ⟨(World.putObj_heap_other (by omega)).trans h.mark, World.putObj_heap_same (Array.getElem?_eq_some_iff.1 h.lrec).1⟩
/-- how a round may be left -/
def Left6 (D : Nat) (Kp : World → World → Prop) (I : Nat → World → Prop) (Ix : World → Prop) (k : Nat) (W : World) : Exit → Act → World → Prop
  | .normal, _, W' => I (k + 1) W' ∧ Kp W W' ∧ ∀ r, Two6 D r W → Two6 D r W'
  | .ret, _, W' => Ix W' ∧ ∀ r, Two6 D r W → Two6 D r W'
  | _, _, _ => False
theorem wpIn_range_tell {g : Operand} {ps : Array Tmp} {assign body : Code} {Q : Exit → Act → World → Prop} {a : Act} {w : World} (h1 : 1 ≤ n) {gf : Nat} {lb : Array Value}
    (hg : a.eval g = .func (.func gf) #[] lb) (eg : ∀ args w, (callFunc gf args).run P w = .ok (.enter gf args) w) (hps : ps.size = 2)
    {m : Nat} {Rd : Nat → Value → Value → World → Prop} {Kp : World → World → Prop}
    (ht : ∀ W0, Below w.heap.size w W0 → w.heap.size + 2 ≤ W0.heap.size → Tells P (n - 1) gf lb m Rd Kp (w.heap.size + 1) W0)
    (hKt : ∀ A B C, Kp A B → Kp B C → Kp A C) (hKp : ∀ A o, Lp (w.heap.size + 1) A → Kp A (A.putObj (w.heap.size + 1) o))
    (I : Nat → World → Prop) (Ix : World → Prop) (hI : ∀ k A B, I k A → Below A.heap.size A B → I k B) (hIp : ∀ k A o, Lp (w.heap.size + 1) A → I k A → I k (A.putObj (w.heap.size + 1) o))
    (hX : ∀ A B, Ix A → Below A.heap.size A B → Ix B) (hXp : ∀ A o, Lp (w.heap.size + 1) A → Ix A → Ix (A.putObj (w.heap.size + 1) o)) (h0 : I 0 w)
    (Ax : Nat → Value → Value → Act → World → World → Prop)
    (hAp : ∀ k v u a' W W1 o, Lp (w.heap.size + 1) W1 → Ax k v u a' W W1 → Ax k v u a' (W.putObj (w.heap.size + 1) o) (W1.putObj (w.heap.size + 1) o))
    (hassign : ∀ k v u W, k < m → I k W → Rd k v u W → w.heap.size + 2 ≤ W.heap.size → assign.wpIn (Fence.wide.inRound (w.heap.size + 1)) (n - 1 - 1) P
      (Exit.then (fun a' W1 => Ax k v u a' W W1 ∧ Below W.heap.size W W1) (fun _ _ _ => False)) { tmps := (ps.zip #[v, u]).foldl (fun t (p, v) => t.setIfInBounds p v) a.tmps, defers := [] } W)
    (hbody : ∀ k v u a' W W1, k < m → I k W1 → Ax k v u a' W W1 → Rd k v u W1 → w.heap.size + 2 ≤ W1.heap.size → body.wpIn (Fence.wide.inRound (w.heap.size + 1)) (n - 1 - 1) P (Left6 w.heap.size Kp I Ix k W1) a' W1)
    (hRd : ∀ k v u A B, Rd k v u A → Below A.heap.size A B → Rd k v u B) (hRp : ∀ k v u A o, Lp (w.heap.size + 1) A → Rd k v u A → Rd k v u (A.putObj (w.heap.size + 1) o)) (hKb : ∀ A B, Below A.heap.size A B → Kp A B)
    (hdone : ∀ W, I m W → W.heap[w.heap.size]? = some (.deferred (some [])) → Q .normal { a with defers := { target := .collected w.heap.size, args := #[] } :: a.defers } W)
    (hstop : ∀ W, Ix W → W.heap[w.heap.size]? = some (.deferred (some [])) → Code.ret.wpIn Fence.wide n P Q { a with defers := { target := .collected w.heap.size, args := #[] } :: a.defers } W) :
    (Code.rangeFunc g ps assign body).wpIn Fence.wide n P Q a w := by
  refine wpIn_rangeFunc fun fn hfn => ?_
  obtain ⟨D, hD⟩ : ∃ D, D = w.heap.size := ⟨_, rfl⟩
  rw [← hD] at hKp hIp hXp hAp hassign hbody hRp hdone hstop
  obtain ⟨R, hR⟩ : ∃ R : LoopState → Option Code → Loop, R = rec6 fn a.tmps ps assign body D := ⟨_, rfl⟩
  obtain ⟨W1, hW1⟩ : ∃ W1, W1 = (w.alloc (.deferred (some []))).alloc (.loop (R .ready none)) := ⟨_, rfl⟩
  have b1 : Below w.heap.size w W1 := by rw [hW1]; exact ((Below.refl _ w).alloc (Nat.le_refl _) _).alloc (by simp) _
  have t1 : Two6 D (R .ready none) W1 := by
    rw [hW1, hD]
    refine ⟨(Below.heap_alloc _ _ _ (by simp)).trans (World.alloc_heap_new w _), ?_⟩
    have := World.alloc_heap_new (w.alloc (.deferred (some []))) (.loop (R .ready none))
    rwa [World.size_alloc] at this
  have s1 : W1.heap.size = D + 2 := by rw [hW1, hD]; simp
  refine ⟨D + 1, [{ target := .collected D, args := #[] }], W1, { target := .fn (.func gf) lb, args := #[.func (.yield (D + 1)) #[] #[]] }, W1, gf, #[.func (.yield (D + 1)) #[] #[]] ++ lb, W1, ?_, ?_, fun f' hf' => trivial, ?_, fun _ => h1, ?_⟩
  · rw [hW1, hR, hD]; exact run_enterLoop_outer _ _ _ _ _
  · simp only [resolve, hg]
    simp [go_sem]
  · simp [invoke, go_sem, eg]
  have hgo := ht W1 b1 (by omega) (fun k W => I k W ∧ Two6 D (R .ready none) W ∧ D + 2 ≤ W.heap.size) (fun W => Ix W ∧ Two6 D (R .done (some .ret)) W)
    (fun k A B h hb => ⟨hI k A B h.1 hb, h.2.1.below hb, Nat.le_trans h.2.2 hb.size⟩) (fun A B h hb => ⟨hX A B h.1 hb, h.2.below hb⟩) ?_ ⟨hI 0 w W1 h0 b1, t1, by omega⟩
  · rw [← hD] at hgo
    refine hgo.mono ?_
    rintro e W2 ⟨⟨v, rfl⟩, (⟨hi, ht2, _⟩ | ⟨hi, ht2⟩)⟩
    · have he := run_endLoop (P := P) ht2.lrec (by rw [hR]; simp [rec6])
      refine ⟨none, _, by rw [hR] at he; exact he, hdone _ (hIp _ _ _ ⟨_, ht2.lrec⟩ hi) ?_⟩
      exact (World.putObj_heap_other (by omega)).trans ht2.mark
    · have he := run_endLoop (P := P) ht2.lrec (by rw [hR]; simp [rec6])
      refine ⟨some .ret, _, by rw [hR] at he; exact he, hstop _ (hXp _ _ ⟨_, ht2.lrec⟩ hi) ?_⟩
      exact (World.putObj_heap_other (by omega)).trans ht2.mark
  · rintro k v u W hk ⟨hi, htw, hsz⟩ hr
    rw [← hD]
    have hy := run_yield (P := P) (args := #[v, u]) htw.lrec (by rw [hR]; simp [rec6, hps])
    rw [hR] at hy
    refine ⟨fn, _, assign, body, hy, roundIn_of_wpIn hfn (wpIn_mono (hassign k v u W hk hi hr hsz) ?_)⟩
    rintro e a' W3 h3
    cases e with
    | normal =>
      obtain ⟨hax, hb3⟩ := h3
      have ht3 := htw.below hb3
      have hbeg := run_beginRound (P := P) ht3.lrec (by rw [hR]; rfl)
      refine ⟨_, hbeg, ?_⟩
      have hst : ({ R .ready none with state := .busy } : Loop) = R .busy none := by rw [hR]; rfl
      rw [hst]
      have ht4 : Two6 D (R .busy none) (W3.putObj (D + 1) (.loop (R .busy none))) := ht3.put
      refine wpIn_mono (hbody k v u a' _ _ hk (hIp _ _ _ ⟨_, ht3.lrec⟩ (hI _ _ _ hi hb3)) (hAp _ _ _ _ _ _ _ ⟨_, ht3.lrec⟩ hax) (hRp _ _ _ _ _ ⟨_, ht3.lrec⟩ (hRd _ _ _ _ _ hr hb3)) (by rw [World.putObj_size]; have := hb3.size; omega)) ?_
      rintro e2 a2 W5 h5
      cases e2 with
      | normal =>
        obtain ⟨hi5, hk5, ht5⟩ := h5
        have ht6 := ht5 _ ht4
        have hend := run_endRound (P := P) none ht6.lrec
        have hst2 : ({ R .busy none with state := if (none : Option Code).isNone then .ready else .done, pending := none } : Loop) = R .ready none := by rw [hR]; rfl
        rw [hst2] at hend
        exact ⟨_, _, hend, .inl ⟨rfl, ⟨hIp _ _ _ ⟨_, ht6.lrec⟩ hi5, ht6.put, by rw [World.putObj_size]; have := (Array.getElem?_eq_some_iff.1 ht6.lrec).1; omega⟩, hKt _ _ _ (hKb _ _ hb3) (hKt _ _ _ (hKp _ _ ⟨_, ht3.lrec⟩) (hKt _ _ _ hk5 (hKp _ _ ⟨_, ht6.lrec⟩)))⟩⟩
      | ret =>
        obtain ⟨hi5, ht5⟩ := h5
        have ht6 := ht5 _ ht4
        have hend := run_endRound (P := P) (some .ret) ht6.lrec
        have hst2 : ({ R .busy none with state := if (some Code.ret : Option Code).isNone then .ready else .done, pending := some .ret } : Loop) = R .done (some .ret) := by rw [hR]; rfl
        rw [hst2] at hend
        exact ⟨_, _, hend, .inr ⟨rfl, hXp _ _ ⟨_, ht6.lrec⟩ hi5, ht6.put⟩⟩
      | exit id => exact h5.elim
      | goto t => exact h5.elim
      | panic ch => exact h5.elim
      | outgrown => exact h5.elim
    | ret => exact h3.elim
    | exit id => exact h3.elim
    | goto t => exact h3.elim
    | panic ch => exact h3.elim
    | outgrown => exact h3.elim
end
end Go.Proofs.YteliflcbegcdlaaGreatDoor

namespace Go.Proofs.YteliflcbegcdlaaGreatDoor
open Go.RowKit
set_option linter.unusedVariables false
attribute [local go_sem] Oper.semAt_some
/-- the mrkD that a range over a function leaves among the deferred calls -/
def mrkD (D : Nat) : Deferred := { target := .collected D, args := #[] }
/-- the blocks of the marks -/
def MkD (N : Nat) (Ds : List Nat) (W : World) : Prop := Ds.Nodup ∧ ∀ D ∈ Ds, N ≤ D ∧ W.heap[D]? = some (.deferred (some []))
theorem MkD.lt {N : Nat} {Ds : List Nat} {W : World} (h : MkD N Ds W) : ∀ D ∈ Ds, D < W.heap.size := fun D hD => (Array.getElem?_eq_some_iff.1 (h.2 D hD).2).1
theorem MkD.keep {N : Nat} {Ds : List Nat} {W W' : World} (h : MkD N Ds W) (k : ∀ D ∈ Ds, W'.heap[D]? = W.heap[D]?) : MkD N Ds W' := ⟨h.1, fun D hD => ⟨(h.2 D hD).1, (k D hD).trans (h.2 D hD).2⟩⟩
theorem leaves_mrkD {F : Fence} {n : Nat} {P : Program} {fn : Func} {tmps : Array Value} {R : Ending → World → Prop} {N : Nat} (J : World → Prop)
    (hJ : ∀ W D, N ≤ D → J W → W.heap[D]? = some (.deferred (some [])) → J (W.putObj D (.deferred none)))
    (hR : ∀ W, J W → LeavesInM F n P fn tmps R [] .returning W) : ∀ (Ds : List Nat) (W : World), MkD N Ds W → J W → LeavesInM F n P fn tmps R (Ds.map mrkD) .returning W
  | [], W, _, h => hR W h
  | D :: Ds, W, hm, h => by
    have hD := hm.2 D (List.mem_cons_self ..)
    have hn := List.nodup_cons.1 hm.1
    refine ⟨by simp, .inl ⟨D, _, rfl, run_takeDeferred hD.2, leaves_mrkD J hJ hR Ds _ ⟨hn.2, fun E hE => ?_⟩ (hJ W D hD.1 h hD.2)⟩⟩
    have hE2 := hm.2 E (List.mem_cons_of_mem _ hE)
    exact ⟨hE2.1, (World.putObj_heap_other (fun e => hn.1 (by first | exact e ▸ hE | exact e.symm ▸ hE))).trans hE2.2⟩
end Go.Proofs.YteliflcbegcdlaaGreatDoor
