/- Small functions of the diagrams: Turn. -/
/- More words: results that lie in memory. -/
/- Classes of a relation, and how passes of least labels find them. -/
/- The labels of the graph components, as the reference finds them: plain. -/
/- unravelref01.Label. -/
/- Cycles of a permutation: how many there are, and maps that keep them. -/
import Derived.Test.YtcjaloddgilnpaaZBase
import Derived.Test.YtcjaloddgilnpaaChecked
import Derived.IntWalk
import Derived.Deep.LoopGhost
import Derived.Deep.RegionHeld3
import Derived.Deep.DeepCutAuto
import Derived.Laws.ResultCell
import Derived.KernelRfl
import Derived.OwnWalk
namespace Go.Proofs.Ytcjaloddgilnpaa
open Go.RowKit
set_option linter.unusedVariables false

/-- the half-edge k slots further -/
def turnN (h k : Nat) : Nat := h / 4 * 4 + (h % 4 + k) % 4

set_option maxHeartbeats 400000 in
theorem turn_code (h : Nat) (w : World) (hh : h < 1000) :
    Calls Try.prog 74 #[.int .i64 h, .int .i64 (-1)] w fun e w' => e = .returned (.int .i64 (turnN h 3)) ∧ w = w' := by
  have u0 : ¬ ((h : Int) < 0) := by omega
  rcases (by omega : h % 4 = 0 ∨ h % 4 = 1 ∨ h % 4 = 2 ∨ h % 4 = 3) with q | q | q | q
  · have q1 : (h : Int) % 4 = 0 := by omega
    go_enter Try.func74, Try.ntmps74
    go_wp2_with fail
    go_ret
    exact ⟨congrArg (fun z => Ending.returned (Value.int .i64 z)) (by unfold turnN; go_num), rfl⟩
  · have q1 : (h : Int) % 4 = 1 := by omega
    go_enter Try.func74, Try.ntmps74
    go_wp2_with fail
    go_ret
    exact ⟨congrArg (fun z => Ending.returned (Value.int .i64 z)) (by unfold turnN; go_num), rfl⟩
  · have q1 : (h : Int) % 4 = 2 := by omega
    go_enter Try.func74, Try.ntmps74
    go_wp2_with fail
    go_ret
    exact ⟨congrArg (fun z => Ending.returned (Value.int .i64 z)) (by unfold turnN; go_num), rfl⟩
  · have q1 : (h : Int) % 4 = 3 := by omega
    go_enter Try.func74, Try.ntmps74
    go_wp2_with fail
    go_ret
    exact ⟨congrArg (fun z => Ending.returned (Value.int .i64 z)) (by unfold turnN; go_num), rfl⟩
set_option maxHeartbeats 400000 in
theorem turn_ref (h : Nat) (w : World) (hh : h < 1000) :
    Calls Try.prog 64 #[.int .i64 h, .int .i64 (-1)] w fun e w' => e = .returned (.int .i64 (turnN h 3)) ∧ w = w' := by
  have u0 : ¬ ((h : Int) < 0) := by omega
  rcases (by omega : h % 4 = 0 ∨ h % 4 = 1 ∨ h % 4 = 2 ∨ h % 4 = 3) with q | q | q | q
  · have q1 : (h : Int) % 4 = 0 := by omega
    go_enter Try.func64, Try.ntmps64
    go_wp2_with fail
    go_ret
    exact ⟨congrArg (fun z => Ending.returned (Value.int .i64 z)) (by unfold turnN; go_num), rfl⟩
  · have q1 : (h : Int) % 4 = 1 := by omega
    go_enter Try.func64, Try.ntmps64
    go_wp2_with fail
    go_ret
    exact ⟨congrArg (fun z => Ending.returned (Value.int .i64 z)) (by unfold turnN; go_num), rfl⟩
  · have q1 : (h : Int) % 4 = 2 := by omega
    go_enter Try.func64, Try.ntmps64
    go_wp2_with fail
    go_ret
    exact ⟨congrArg (fun z => Ending.returned (Value.int .i64 z)) (by unfold turnN; go_num), rfl⟩
  · have q1 : (h : Int) % 4 = 3 := by omega
    go_enter Try.func64, Try.ntmps64
    go_wp2_with fail
    go_ret
    exact ⟨congrArg (fun z => Ending.returned (Value.int .i64 z)) (by unfold turnN; go_num), rfl⟩
set_option maxHeartbeats 400000 in
theorem turn2_ref (h : Nat) (w : World) (hh : h < 1000) :
    Calls Try.prog 64 #[.int .i64 h, .int .i64 2] w fun e w' => e = .returned (.int .i64 (turnN h 2)) ∧ w = w' := by
  have u0 : ¬ ((h : Int) < 0) := by omega
  rcases (by omega : h % 4 = 0 ∨ h % 4 = 1 ∨ h % 4 = 2 ∨ h % 4 = 3) with q | q | q | q
  · have q1 : (h : Int) % 4 = 0 := by omega
    go_enter Try.func64, Try.ntmps64
    go_wp2_with fail
    go_ret
    exact ⟨congrArg (fun z => Ending.returned (Value.int .i64 z)) (by unfold turnN; go_num), rfl⟩
  · have q1 : (h : Int) % 4 = 1 := by omega
    go_enter Try.func64, Try.ntmps64
    go_wp2_with fail
    go_ret
    exact ⟨congrArg (fun z => Ending.returned (Value.int .i64 z)) (by unfold turnN; go_num), rfl⟩
  · have q1 : (h : Int) % 4 = 2 := by omega
    go_enter Try.func64, Try.ntmps64
    go_wp2_with fail
    go_ret
    exact ⟨congrArg (fun z => Ending.returned (Value.int .i64 z)) (by unfold turnN; go_num), rfl⟩
  · have q1 : (h : Int) % 4 = 3 := by omega
    go_enter Try.func64, Try.ntmps64
    go_wp2_with fail
    go_ret
    exact ⟨congrArg (fun z => Ending.returned (Value.int .i64 z)) (by unfold turnN; go_num), rfl⟩

/-- is a half-edge outgoing? -/
def outB (S : List Int) (h : Nat) : Bool := if h % 4 = 1 then S[h / 4]?.getD 0 == 1 else if h % 4 = 2 then true else if h % 4 = 3 then S[h / 4]?.getD 0 == -1 else false
set_option maxHeartbeats 400000 in
theorem out_ref (vs : Value) (S : List Int) (h : Nat) (w : World) (hS : Ints w vs S) (hh : h / 4 < S.length) (hl : S.length ≤ 250) :
    Calls Try.prog 34 #[vs, .int .i64 h] w fun e w' => e = .returned (.bool (outB S h)) ∧ w = w' := by
  have hS0 := hS
  obtain ⟨A, c, rfl, hc, hx⟩ := hS
  clear hx
  obtain ⟨b, o, rfl, hbl, hcell⟩ := hS0.at_ hh
  have hg : S[h / 4]?.getD 0 = S[h / 4] := by rw [List.getElem?_eq_getElem hh]; rfl
  have hfin := show outB S h = if h % 4 = 1 then S[h / 4] == 1 else if h % 4 = 2 then true else if h % 4 = 3 then S[h / 4] == -1 else false by unfold outB; rw [hg]
  clear hg
  generalize S[h / 4] = x at *
  have u4 : h < 1000 := by omega
  have u1 : ((h : Int) / 4) = ((h / 4 : Nat) : Int) := by omega
  have q1 : (h : Int) % 4 = ((h % 4 : Nat) : Int) := by omega
  generalize h / 4 = k at *
  generalize outB S h = B at *
  have q5 : h % 4 < 4 := Nat.mod_lt _ (by omega)
  generalize h % 4 = j at *
  have u2 : (k : Int) < (S.length : Int) := by omega
  rcases (by omega : j = 0 ∨ j = 1 ∨ j = 2 ∨ j = 3) with q | q | q | q
  all_goals
    subst j
    simp at hfin q1
    subst hfin
    clear q5
    go_enter Try.func34, Try.ntmps34
    go_wp2_with fail
    go_ret
    exact ⟨rfl, rfl⟩

set_option maxHeartbeats 400000 in
theorem out_code (vs vm : Value) (L : Int) (S : List Int) (h : Nat) (w : World) (hS : Ints w vs S) (hh : h / 4 < S.length) (hl : S.length ≤ 250) :
    Calls Try.prog 62 #[.agg #[vs, vm, .int .i64 L], .int .i64 h] w fun e w' => e = .returned (.bool (outB S h)) ∧ Below w.heap.size w w' := by
  have hS0 := hS
  obtain ⟨A, c, rfl, hc, hx⟩ := hS
  clear hx
  obtain ⟨b, o, rfl, hbl, hcell⟩ := hS0.at_ hh
  have hg : S[h / 4]?.getD 0 = S[h / 4] := by rw [List.getElem?_eq_getElem hh]; rfl
  have hfin := show outB S h = if h % 4 = 1 then S[h / 4] == 1 else if h % 4 = 2 then true else if h % 4 = 3 then S[h / 4] == -1 else false by unfold outB; rw [hg]
  clear hg
  generalize S[h / 4] = x at *
  have u4 : h < 1000 := by omega
  have u1 : ((h : Int) / 4) = ((h / 4 : Nat) : Int) := by omega
  have q1 : (h : Int) % 4 = ((h % 4 : Nat) : Int) := by omega
  generalize h / 4 = k at *
  generalize outB S h = B at *
  have q5 : h % 4 < 4 := Nat.mod_lt _ (by omega)
  generalize h % 4 = j at *
  have u2 : (k : Int) < (S.length : Int) := by omega
  have hW : Arr (w.alloc (.cells #[.slice (some ⟨b, o, none⟩) S.length c, vm, .int .i64 L] 24)) w.heap.size 24 [.slice (some ⟨b, o, none⟩) S.length c, vm, .int .i64 L] ∧ Below w.heap.size w (w.alloc (.cells #[.slice (some ⟨b, o, none⟩) S.length c, vm, .int .i64 L] 24)) := ⟨Arr.new w _ _, (Below.refl _ _).alloc (Nat.le_refl _) _⟩
  rcases (by omega : j = 0 ∨ j = 1 ∨ j = 2 ∨ j = 3) with q | q | q | q
  all_goals
    subst j
    simp at hfin q1
    subst hfin
    clear q5
    go_enter Try.func62, Try.ntmps62
    go_upto_region 1 with fail
    generalize (w.alloc (.cells #[.slice (some ⟨b, o, none⟩) S.length c, vm, .int .i64 L] 24)) = w4 at hW ⊢
    obtain ⟨q0, hb4⟩ := hW
    have y0 := q0.cell 0
    have hcell4 := (hb4.cell hbl).trans hcell
    clear q0 hcell
    go_wp2_with fail
    go_ret
    exact ⟨rfl, hb4⟩
end Go.Proofs.Ytcjaloddgilnpaa

namespace Go.Proofs.Ytcjaloddgilnpaa
set_option linter.unusedVariables false
open Go.RowKit

theorem results_ct {P : Program} {fn : Func} {p u : Tmp} {ty : TypeId} (h : fn.results = #[.cell p ty, .tmp u]) (tmps : Array Value) (w : World) (g : Nat) (t : TypeId) (cs : List Value) (d : TypeDesc)
    (hp : tmps.getD p undef = .pointer (some ⟨g, 0, none⟩)) (hg : Arr w g t cs)
    (hu : P.underlying ty = some d) (hd : (match d with | .struct _ | .array _ _ => true | _ => false) = true) (hi : (P.info? ty).map (·.size) = some (rowOf cs).size) :
    (results fn tmps).run P w = .ok (.tuple #[.agg (rowOf cs), tmps.getD u undef]) w := by
  rw [results_cell_tmp h, hp]
  simp [asAddr, run_loadVar_row w g t ty (rowOf cs) (0, 0) d hg hu hd hi]
theorem results_ctt {P : Program} {fn : Func} {p u u' : Tmp} {ty : TypeId} (h : fn.results = #[.cell p ty, .tmp u, .tmp u']) (tmps : Array Value) (w : World) (g : Nat) (t : TypeId) (cs : List Value) (d : TypeDesc)
    (hp : tmps.getD p undef = .pointer (some ⟨g, 0, none⟩)) (hg : Arr w g t cs)
    (hu : P.underlying ty = some d) (hd : (match d with | .struct _ | .array _ _ => true | _ => false) = true) (hi : (P.info? ty).map (·.size) = some (rowOf cs).size) :
    (results fn tmps).run P w = .ok (.tuple #[.agg (rowOf cs), tmps.getD u undef, tmps.getD u' undef]) w := by
  have hp' : tmps[p]?.getD undef = .pointer (some ⟨g, 0, none⟩) := by simpa using hp
  simp only [results, h]
  simp [hp', Result.andThen, asAddr, run_loadVar_row w g t ty (rowOf cs) (0, 0) d hg hu hd hi]
theorem results_c {P : Program} {fn : Func} {p : Tmp} {ty : TypeId} (h : fn.results = #[.cell p ty]) (tmps : Array Value) (w : World) (g : Nat) (t : TypeId) (cs : List Value) (d : TypeDesc)
    (hp : tmps.getD p undef = .pointer (some ⟨g, 0, none⟩)) (hg : Arr w g t cs)
    (hu : P.underlying ty = some d) (hd : (match d with | .struct _ | .array _ _ => true | _ => false) = true) (hi : (P.info? ty).map (·.size) = some (rowOf cs).size) :
    (results fn tmps).run P w = .ok (.agg (rowOf cs)) w := results_cell_row h tmps w g t (rowOf cs) (0, 0) d hp hg hu hd hi
end Go.Proofs.Ytcjaloddgilnpaa

namespace Go.Proofs.Ytcjaloddgilnpaa
set_option linter.unusedVariables false

/-- the closure of a relation -/
inductive Conn (E : Nat → Nat → Prop) : Nat → Nat → Prop
  | refl (a : Nat) : Conn E a a
  | step {a b c : Nat} : Conn E a b → E b c → Conn E a c
namespace Conn
variable {E : Nat → Nat → Prop} {a b c : Nat}
theorem one (h : E a b) : Conn E a b := .step (.refl a) h
theorem trans (h : Conn E a b) (k : Conn E b c) : Conn E a c := by
  induction k with
  | refl => exact h
  | step _ e ih => exact .step ih e
theorem symm (hE : ∀ a b, E a b → E b a) (h : Conn E a b) : Conn E b a := by
  induction h with
  | refl => exact .refl _
  | step _ e ih => exact (one (hE _ _ e)).trans ih
/-- a set that is closed under the relation -/
theorem closed {P : Nat → Prop} (hP : ∀ a b, E a b → P a → P b) (h : Conn E a b) (ha : P a) : P b := by
  induction h with
  | refl => exact ha
  | step _ e ih => exact hP _ _ e ih
end Conn

theorem countP_lt {p q : Nat → Bool} : ∀ (l : List Nat), (∀ x ∈ l, p x = true → q x = true) → (∃ x ∈ l, q x = true ∧ p x = false) → l.countP p < l.countP q
  | [], _, h => by obtain ⟨x, hx, _⟩ := h; cases hx
  | a :: l, hm, h => by
    have hle : l.countP p ≤ l.countP q := List.countP_mono_left (fun x hx => hm x (List.mem_cons_of_mem _ hx))
    rw [List.countP_cons, List.countP_cons]
    by_cases hx : ∃ x ∈ l, q x = true ∧ p x = false
    · have := countP_lt l (fun x hx => hm x (List.mem_cons_of_mem _ hx)) hx
      have ha := hm a (by simp)
      cases hp : p a <;> cases hq : q a <;> simp_all <;> omega
    · obtain ⟨x, hx1, hx2, hx3⟩ := h
      rcases List.mem_cons.1 hx1 with rfl | hx1
      · simp [hx2, hx3]; omega
      · exact absurd ⟨x, hx1, hx2, hx3⟩ hx

/-- after n passes each label is at most every element of its class -/
theorem passes {n : Nat} {E : Nat → Nat → Prop} (hE : ∀ a b, E a b → a < n ∧ b < n) (T : Nat → Nat → Nat) (h0 : ∀ c, c < n → T 0 c ≤ c)
    (hd : ∀ t c, T (t + 1) c ≤ T t c) (he : ∀ t a b, E a b → T (t + 1) b ≤ T t a) {m c : Nat} (hm : m < n) (hc : Conn E m c) : T n c ≤ m := by
  have down : ∀ t, T t m ≤ m := by
    intro t
    induction t with
    | zero => exact h0 m hm
    | succ t ih => exact Nat.le_trans (hd t m) ih
  have key : ∀ t, (∀ c, Conn E m c → T t c ≤ m) ∨ t + 1 ≤ (List.range n).countP (fun c => decide (T t c ≤ m)) := by
    intro t
    induction t with
    | zero =>
      refine Or.inr ?_
      rw [Nat.zero_add]
      exact List.countP_pos_iff.2 ⟨m, List.mem_range.2 hm, by simpa using h0 m hm⟩
    | succ t ih =>
      rcases ih with ih | ih
      · exact Or.inl fun c h => Nat.le_trans (hd t c) (ih c h)
      · by_cases hx : ∃ c ∈ List.range n, decide (T (t + 1) c ≤ m) = true ∧ decide (T t c ≤ m) = false
        · refine Or.inr (Nat.lt_of_le_of_lt ih ?_)
          refine countP_lt _ (fun x _ h => ?_) hx
          have := hd t x
          simp only [decide_eq_true_eq] at h ⊢
          omega
        · refine Or.inl fun c h => ?_
          have hcl : T t c ≤ m := by
            refine h.closed (P := fun c => T t c ≤ m) (fun a b e ha => ?_) (down t)
            have h1 := he t a b e
            rcases Nat.lt_or_ge m (T t b) with h2 | h2
            · exact absurd ⟨b, List.mem_range.2 (hE a b e).2, by simp; omega, by simp; omega⟩ hx
            · exact h2
          exact Nat.le_trans (hd t c) hcl
  rcases key n with h | h
  · exact h c hc
  · have := List.countP_le_length (p := fun c => decide (T n c ≤ m)) (l := List.range n)
    rw [List.length_range] at this
    omega
end Go.Proofs.Ytcjaloddgilnpaa

namespace Go.Proofs.Ytcjaloddgilnpaa
set_option linter.unusedVariables false

/-- the mate of a half-edge -/
def mt (M : List Int) (h : Nat) : Nat := (M[h]?.getD 0).toNat
/-- an element of a list of numbers -/
def gn (l : List Nat) (k : Nat) : Nat := l[k]?.getD 0
theorem gn_set (l : List Nat) (a x c : Nat) (ha : a < l.length) : gn (l.set a x) c = if c = a then x else gn l c := by
  unfold gn
  rw [List.getElem?_set]
  by_cases h : a = c
  · subst h; simp [ha]
  · simp [h, Ne.symm h]
/-- one step of a pass: the two ends of an edge take the lesser label -/
def opL (M : List Int) (l : List Nat) (h : Nat) : List Nat :=
  (l.set (h / 4) (min (gn l (h / 4)) (gn l (mt M h / 4)))).set (mt M h / 4) (min (gn l (h / 4)) (gn l (mt M h / 4)))
def passK (M : List Int) (l : List Nat) : Nat → List Nat
  | 0 => l
  | k + 1 => opL M (passK M l k) k
def labK (M : List Int) (n : Nat) : Nat → List Nat
  | 0 => List.range n
  | t + 1 => passK M (labK M n t) M.length
theorem opL_length (M : List Int) (l : List Nat) (h : Nat) : (opL M l h).length = l.length := by simp [opL]
theorem passK_length (M : List Int) (l : List Nat) : ∀ k, (passK M l k).length = l.length
  | 0 => rfl
  | k + 1 => by rw [passK, opL_length, passK_length M l k]
theorem labK_length (M : List Int) (n : Nat) : ∀ t, (labK M n t).length = n
  | 0 => by simp [labK]
  | t + 1 => by rw [labK, passK_length, labK_length M n t]
/-- the mates of a graph with n crossings lie in range -/
def Rg (M : List Int) (n : Nat) : Prop := M.length = 4 * n ∧ ∀ h, h < 4 * n → mt M h < 4 * n
/-- an edge of the graph -/
def Ed (M : List Int) (a b : Nat) : Prop := ∃ h, h < M.length ∧ ((a = h / 4 ∧ b = mt M h / 4) ∨ (b = h / 4 ∧ a = mt M h / 4))
theorem Ed.symm {M : List Int} {a b : Nat} (h : Ed M a b) : Ed M b a := by
  obtain ⟨h, h1, h2 | h2⟩ := h
  · exact ⟨h, h1, Or.inr ⟨h2.1, h2.2⟩⟩
  · exact ⟨h, h1, Or.inl ⟨h2.1, h2.2⟩⟩
section
variable {M : List Int} {n : Nat} (hR : Rg M n)
include hR
theorem Ed.lt {a b : Nat} (h : Ed M a b) : a < n ∧ b < n := by
  obtain ⟨h, h1, h2⟩ := h
  have h3 := hR.1
  have h4 := hR.2 h (by omega)
  omega
theorem gn_opL {l : List Nat} (hl : l.length = n) {h : Nat} (hh : h < M.length) (c : Nat) :
    gn (opL M l h) c = if c = h / 4 ∨ c = mt M h / 4 then min (gn l (h / 4)) (gn l (mt M h / 4)) else gn l c := by
  have h3 := hR.1
  have h4 := hR.2 h (by omega)
  unfold opL
  rw [gn_set _ _ _ _ (by rw [List.length_set]; omega), gn_set _ _ _ _ (by omega)]
  by_cases e1 : c = mt M h / 4
  · simp [e1]
  · by_cases e2 : c = h / 4
    · simp [e2]
    · simp [e1, e2]
theorem opL_le {l : List Nat} (hl : l.length = n) {h : Nat} (hh : h < M.length) (c : Nat) : gn (opL M l h) c ≤ gn l c := by
  rw [gn_opL hR hl hh]
  split
  · rename_i e
    rcases e with e | e <;> subst e <;> omega
  · exact Nat.le_refl _
theorem passK_le {l : List Nat} (hl : l.length = n) (c : Nat) : ∀ (k j : Nat), j ≤ k → k ≤ M.length → gn (passK M l k) c ≤ gn (passK M l j) c := by
  intro k
  induction k with
  | zero => intro j h1 _; have : j = 0 := by omega
            subst this; exact Nat.le_refl _
  | succ k ih =>
    intro j h1 h2
    rcases Nat.lt_or_ge j (k + 1) with h | h
    · refine Nat.le_trans ?_ (ih j (by omega) (by omega))
      exact opL_le hR (by rw [passK_length]; exact hl) (by omega) c
    · have : j = k + 1 := by omega
      subst this; exact Nat.le_refl _
theorem passK_edge {l : List Nat} (hl : l.length = n) {a b : Nat} (h : Ed M a b) : gn (passK M l M.length) b ≤ gn l a := by
  obtain ⟨h, h1, h2⟩ := h
  have e1 := passK_le hR hl b M.length (h + 1) (by omega) (Nat.le_refl _)
  have e2 := passK_le hR hl a h 0 (by omega) (by omega)
  have e3 := gn_opL hR (l := passK M l h) (by rw [passK_length]; exact hl) h1 b
  have e4 : gn (passK M l 0) a = gn l a := rfl
  rw [passK, e3] at e1
  rw [e4] at e2
  rw [if_pos (by rcases h2 with h2 | h2 <;> omega)] at e1
  rcases h2 with ⟨rfl, rfl⟩ | ⟨rfl, rfl⟩ <;> omega
theorem opL_conn {l : List Nat} (hl : l.length = n) (hc : ∀ c, c < n → Conn (Ed M) c (gn l c)) {h : Nat} (hh : h < M.length) (c : Nat) (hcn : c < n) : Conn (Ed M) c (gn (opL M l h) c) := by
  have h3 := hR.1
  have h4 := hR.2 h (by omega)
  have ed : Ed M (h / 4) (mt M h / 4) := ⟨h, hh, Or.inl ⟨rfl, rfl⟩⟩
  rw [gn_opL hR hl hh]
  split
  · rename_i e
    have c1 := hc (h / 4) (by omega)
    have c2 := hc (mt M h / 4) (by omega)
    have d1 : Conn (Ed M) c (h / 4) := by
      rcases e with e | e <;> subst e
      · exact .refl _
      · exact .one ed.symm
    have d2 : Conn (Ed M) c (mt M h / 4) := by
      rcases e with e | e <;> subst e
      · exact .one ed
      · exact .refl _
    rcases Nat.le_total (gn l (h / 4)) (gn l (mt M h / 4)) with q | q
    · rw [Nat.min_eq_left q]; exact d1.trans c1
    · rw [Nat.min_eq_right q]; exact d2.trans c2
  · exact hc c hcn
theorem passK_conn {l : List Nat} (hl : l.length = n) (hc : ∀ c, c < n → Conn (Ed M) c (gn l c)) : ∀ k, k ≤ M.length → ∀ c, c < n → Conn (Ed M) c (gn (passK M l k) c) := by
  intro k
  induction k with
  | zero => intro _; exact hc
  | succ k ih =>
    intro h c hcn
    exact opL_conn hR (by rw [passK_length]; exact hl) (ih (by omega)) (by omega) c hcn
theorem labK_conn : ∀ t c, c < n → Conn (Ed M) c (gn (labK M n t) c) := by
  intro t
  induction t with
  | zero => intro c hc; rw [labK, gn, List.getElem?_range hc]; exact .refl _
  | succ t ih => exact passK_conn hR (labK_length M n t) ih _ (Nat.le_refl _)
/-- the label is the least of the component -/
theorem labK_least {c m : Nat} (hm : m < n) (h : Conn (Ed M) m c) : gn (labK M n n) c ≤ m := by
  refine passes (E := Ed M) (n := n) (fun a b e => e.lt hR) (fun t c => gn (labK M n t) c) ?_ ?_ ?_ hm h
  · intro c hc; show gn (labK M n 0) c ≤ c
    rw [labK, gn, List.getElem?_range hc]; exact Nat.le_refl _
  · intro t c; exact passK_le hR (labK_length M n t) c M.length 0 (by omega) (Nat.le_refl _)
  · intro t a b e; exact passK_edge hR (labK_length M n t) e
end
end Go.Proofs.Ytcjaloddgilnpaa

namespace Go.Proofs.Ytcjaloddgilnpaa
open Go.RowKit
set_option linter.unusedVariables false

/-- numbers as cells -/
def nc (l : List Nat) : List Value := l.map fun (k : Nat) => Value.int .i64 (k : Int)
theorem nc_get {l : List Nat} {k : Nat} (h : k < l.length) : (nc l)[k]? = some (.int .i64 (gn l k : Nat)) := by
  unfold nc gn; rw [List.getElem?_map, List.getElem?_eq_getElem h]; rfl
theorem nc_set (l : List Nat) (k x : Nat) : (nc l).set k (.int .i64 (x : Nat)) = nc (l.set k x) := by
  unfold nc; rw [List.map_set]
theorem mt_at {w : World} {A : Option Addr} {n c h : Nat} {M : List Int} (hM : Ints w (.slice A n c) M) (hh : h < M.length) (h0 : 0 ≤ M[h]) :
    ∃ b o, A = some ⟨b, o, none⟩ ∧ b < w.heap.size ∧ w.cell? ⟨b, o + h, none⟩ = some (.int .i64 (mt M h : Nat)) := by
  obtain ⟨b, o, hA, hb, hc⟩ := hM.at_ hh
  refine ⟨b, o, hA, hb, ?_⟩
  rw [hc, mt, List.getElem?_eq_getElem hh]
  simp only [Option.getD_some]
  rw [Int.toNat_of_nonneg h0]
/-- the list of the first k numbers, then zeros -/
def upto (n k : Nat) : List Nat := (List.range n).map fun i => if i < k then i else 0
theorem upto_zero (n : Nat) : nc (upto n 0) = List.replicate n (.int .i64 0) := by
  apply List.ext_getElem?
  intro i
  unfold nc upto
  simp [List.getElem?_replicate]
  by_cases h : i < n <;> simp [h]
theorem upto_all (n : Nat) : upto n n = List.range n := by
  apply List.ext_getElem?
  intro i
  unfold upto
  simp
  by_cases h : i < n <;> simp [h]
theorem upto_step {n k : Nat} (h : k < n) : (upto n k).set k k = upto n (k + 1) := by
  apply List.ext_getElem?
  intro i
  unfold upto
  rw [List.getElem?_set]
  by_cases e : k = i
  · subst e; simp [h]
  · simp [e]
    by_cases hi : i < n <;> simp [hi]
    split <;> split <;> omega
theorem upto_length (n k : Nat) : (upto n k).length = n := by simp [upto]

theorem info_int : (Try.prog.info? 3).map (fun i => (i.zero, i.size, i.bytes)) = some (some (.int .i64 0), 1, 8) := by kernel_rfl

set_option maxHeartbeats 2000000 in
theorem label_ref (vm : Value) (M : List Int) (n : Nat) (w : World) (hM : Ints w vm M) (hn : n ≤ 64) (hR : Rg M n) (h0 : ∀ h (hh : h < M.length), 0 ≤ M[h]) :
    Calls Try.prog 35 #[vm] w fun e w' => e = .returned (.slice (some ⟨w.heap.size, 0, none⟩) n n) ∧ Arr w' w.heap.size 3 (nc (labK M n n)) ∧ Below w.heap.size w w' := by
  obtain ⟨i0, hi0, hz0, hz1, hz2⟩ := info_parts info_int
  have hmk := fun W => run_make_one (P := Try.prog) 22 3 i0 (.int .i64 0) Try.underlying22 hi0 hz0 hz1 rfl (by rw [hz2]; decide) n (by omega) W
  clear hi0 hz0 hz1 hz2
  have e1 : (M.length : Int) / 4 = (n : Int) := by have := hR.1; omega
  have hl2 : M.length ≤ 256 := by have := hR.1; omega
  have HR := Lib.hid hR
  have H0 := Lib.hid h0
  clear h0 hR
  have hM0 := hM
  obtain ⟨A, c, rfl, hc, hh⟩ := hM
  clear hh
  go_enter Try.func35, Try.ntmps35
  go_wp2_with fail
  have hW : Arr (w.alloc (.cells (rowOf (List.replicate n (Value.int .i64 0))) 3)) w.heap.size 3 (nc (upto n 0)) ∧ Below w.heap.size w (w.alloc (.cells (rowOf (List.replicate n (Value.int .i64 0))) 3)) :=
    ⟨by rw [upto_zero]; exact Arr.new w _ _, (Below.refl _ _).alloc (Nat.le_refl _) _⟩
  clear hmk
  generalize w.alloc (.cells (rowOf (List.replicate n (Value.int .i64 0))) 3) = w4 at hW ⊢
  obtain ⟨a0, hb4⟩ := hW
  go_loopg [5] n (fun gk s5 wr => ∃ k : Nat, k ≤ n ∧ gk = n - k ∧ s5 = .int .i64 (k : Int) ∧ Arr wr w.heap.size 3 (nc (upto n k)) ∧ Below w.heap.size w wr)
  case atStart => exact ⟨0, Nat.zero_le _, rfl, rfl, a0, hb4⟩
  case round =>
    clear a0 hb4
    obtain ⟨k, hk, rfl, rfl, a0, hb4⟩ := hrel
    by_cases hlt : k < n
    · have z1 : (k : Int) < (n : Int) := by omega
      have zc := (a0.cell k).trans (nc_get (by rw [upto_length]; exact hlt))
      have zf := a0.frozen k
      go_wp2_with fail
      go_roundg (n - (k + 1))
      case measure => omega
      case rel => exact ⟨k + 1, by omega, rfl, by go_num, by rw [← upto_step hlt, ← nc_set]; exact a0.set k _, hb4.setCell (p := ⟨w.heap.size, k, none⟩) (Nat.le_refl _) _⟩
    · have z1 : ¬ ((k : Int) < (n : Int)) := by omega
      have a1 : Arr wr w.heap.size 3 (nc (labK M n 0)) := by
        have hkn : k = n := by omega
        rw [hkn, upto_all] at a0; exact a0
      clear a0
      go_wp2_with fail
      obtain ⟨wo, rfl⟩ : ∃ wo : World, wo = wr := ⟨_, rfl⟩
      go_loopg [6, 7, 8, 9, 10] n (fun gk s6 s7 s8 s9 s10 wi => ∃ t : Nat, t ≤ n ∧ gk = n - t ∧ s6 = .int .i64 (t : Int) ∧ Arr wi w.heap.size 3 (nc (labK M n t)) ∧ Below w.heap.size w wi)
      case atStart => exact ⟨0, Nat.zero_le _, rfl, rfl, a1, hb4⟩
      case round =>
        clear a1 hb4 z1 hlt hk
        obtain ⟨t, ht, rfl, rfl, a1, hb4⟩ := hrel
        by_cases hlt : t < n
        · have z1 : (t : Int) < (n : Int) := by omega
          go_wp2_with fail
          obtain ⟨wp, rfl⟩ : ∃ wp : World, wp = wr := ⟨_, rfl⟩
          have a2 : Arr wp w.heap.size 3 (nc (passK M (labK M n t) 0)) := a1
          have ll := labK_length M n t
          clear a1
          go_loopg [7, 8, 9, 10] M.length (fun gk s7 s8 s9 s10 wi => ∃ h : Nat, h ≤ M.length ∧ gk = M.length - h ∧ s7 = .int .i64 (h : Int) ∧ Arr wi w.heap.size 3 (nc (passK M (labK M n t) h)) ∧ Below w.heap.size w wi)
          case atStart => exact ⟨0, Nat.zero_le _, rfl, rfl, a2, hb4⟩
          case round =>
            clear a2 hb4
            obtain ⟨h, hh, rfl, rfl, a1, hb4⟩ := hrel
            by_cases hlt2 : h < M.length
            · have z2 : (h : Int) < (M.length : Int) := by omega
              obtain ⟨b, o, rfl, hbl, hcell⟩ := mt_at (hM0.below hb4) hlt2 (H0.out h hlt2)
              have hln : (passK M (labK M n t) h).length = n := by rw [passK_length]; exact ll
              have hst := Lib.hid (show passK M (labK M n t) (h + 1) = opL M (passK M (labK M n t) h) h from rfl)
              have hml : mt M h < 4 * n := HR.out.2 h (by have := HR.out.1; omega)
              have hhl : h < 4 * n := by have := HR.out.1; omega
              rw [opL] at hst
              generalize passK M (labK M n t) h = l at *
              generalize mt M h = m at *
              have d1 : (h : Int) / 4 = ((h / 4 : Nat) : Int) := by omega
              have d2 : (m : Int) / 4 = ((m / 4 : Nat) : Int) := by omega
              have b1 : h / 4 < n := by omega
              have b2 : m / 4 < n := by omega
              generalize h / 4 = q at *
              generalize m / 4 = r at *
              have c1 := (a1.cell q).trans (nc_get (by omega))
              have c2 := (a1.cell r).trans (nc_get (by omega))
              have f1 := a1.frozen q
              have f2 := a1.frozen r
              have y1 : (q : Int) < (n : Int) := by omega
              have y2 : (r : Int) < (n : Int) := by omega
              have dm : min (gn l q : Int) (gn l r : Int) = ((min (gn l q) (gn l r) : Nat) : Int) := by omega
              generalize gn l q = x at *
              generalize gn l r = y at *
              by_cases hqr : q = r
              · subst hqr
                have hxy : x = y := by rw [c1] at c2; simp at c2; omega
                subst hxy
                have hy' : x ≤ x := Nat.le_refl _
                clear dm
                go_upto_region 13 with fail
                go_quiet (fail)
                go_upto_region 14 with fail
                go_quiet (fail)
                go_wp2_with fail
                go_roundg (M.length - (h + 1))
                case measure => omega
                case rel => exact ⟨h + 1, by omega, rfl, by go_num, by rw [hst.out, Nat.min_self, ← nc_set, ← nc_set]; exact ((a1.drewN _).set q _).set q _, bset2 (bdrewN hb4 _) (Nat.le_refl _)⟩
              · have hrq : ¬ r = q := fun e => hqr e.symm
                by_cases hyx : y < x
                · have hy' : ¬ (x ≤ y) := by omega
                  clear dm
                  go_upto_region 13 with fail
                  go_quiet (fail)
                  go_upto_region 14 with fail
                  go_quiet (fail)
                  go_wp2_with fail
                  go_roundg (M.length - (h + 1))
                  case measure => omega
                  case rel => exact ⟨h + 1, by omega, rfl, by go_num, by rw [hst.out, Nat.min_eq_right (Nat.le_of_lt hyx), ← nc_set, ← nc_set]; exact ((a1.drewN _).set q _).set r _, bset2 (bdrewN hb4 _) (Nat.le_refl _)⟩
                · have hy' : x ≤ y := by omega
                  clear dm
                  go_upto_region 13 with fail
                  go_quiet (fail)
                  go_upto_region 14 with fail
                  go_quiet (fail)
                  go_wp2_with fail
                  go_roundg (M.length - (h + 1))
                  case measure => omega
                  case rel => exact ⟨h + 1, by omega, rfl, by go_num, by rw [hst.out, Nat.min_eq_left hy', ← nc_set, ← nc_set]; exact ((a1.drewN _).set q _).set r _, bset2 (bdrewN hb4 _) (Nat.le_refl _)⟩
            · have z2 : ¬ ((h : Int) < (M.length : Int)) := by omega
              have a3 : Arr wr w.heap.size 3 (nc (labK M n (t + 1))) := by
                have e : h = M.length := by omega
                rw [e] at a1; exact a1
              clear a1
              go_wp2_with fail
              go_roundg (n - (t + 1))
              case measure => omega
              case rel => exact ⟨t + 1, by omega, rfl, by go_num, a3, hb4⟩
        · have z1 : ¬ ((t : Int) < (n : Int)) := by omega
          have htn : t = n := by omega
          clear hlt
          go_wp2_with fail
          go_ret
          exact ⟨rfl, by rw [htn] at a1; exact a1, hb4⟩
end Go.Proofs.Ytcjaloddgilnpaa

namespace Go.Proofs.Ytcjaloddgilnpaa
set_option linter.unusedVariables false
open Go.RowKit

def itr (f : Nat → Nat) : Nat → Nat → Nat
  | 0, i => i
  | k + 1, i => f (itr f k i)
theorem itr_add (f : Nat → Nat) (a b i : Nat) : itr f (a + b) i = itr f a (itr f b i) := by
  induction a with
  | zero => rw [Nat.zero_add]; rfl
  | succ a ih => rw [Nat.succ_add, itr, itr, ih]

structure PermF (n : Nat) (f : Nat → Nat) : Prop where
  lt : ∀ i, i < n → f i < n
  inj : ∀ i j, i < n → j < n → f i = f j → i = j

def Rl (f : Nat → Nat) (i j : Nat) : Prop := ∃ k, itr f k i = j
theorem Rl.refl (f : Nat → Nat) (i : Nat) : Rl f i i := ⟨0, rfl⟩
theorem Rl.step (f : Nat → Nat) (i : Nat) : Rl f i (f i) := ⟨1, rfl⟩
theorem Rl.trans {f : Nat → Nat} {i j k : Nat} (h : Rl f i j) (h' : Rl f j k) : Rl f i k := by
  obtain ⟨a, ha⟩ := h
  obtain ⟨b, hb⟩ := h'
  exact ⟨b + a, by rw [itr_add, ha, hb]⟩

theorem len_sub : ∀ (l X : List Nat), l.Nodup → (∀ x ∈ l, x ∈ X) → l.length ≤ X.length := by
  intro l
  induction l with
  | nil => intro X _ _; simp
  | cons a l ih =>
    intro X hn hs
    have ha := hs a List.mem_cons_self
    have := ih (X.erase a) (List.nodup_cons.1 hn).2 (fun x hx => by
      rw [List.mem_erase_of_ne]
      · exact hs x (List.mem_cons_of_mem _ hx)
      · intro e; subst e; exact (List.nodup_cons.1 hn).1 hx)
    rw [List.length_erase_of_mem ha] at this
    have hpos : 0 < X.length := List.length_pos_of_mem ha
    simp only [List.length_cons]
    omega

theorem nodup_map {g : Nat → Nat} : ∀ {l : List Nat}, l.Nodup → (∀ a, a ∈ l → ∀ b, b ∈ l → g a = g b → a = b) → (l.map g).Nodup := by
  intro l
  induction l with
  | nil => intro _ _; simp
  | cons a l ih =>
    intro hn hi
    rw [List.map_cons, List.nodup_cons]
    refine ⟨fun hm => ?_, ih (List.nodup_cons.1 hn).2 (fun x hx y hy => hi x (List.mem_cons_of_mem _ hx) y (List.mem_cons_of_mem _ hy))⟩
    obtain ⟨b, hb, e⟩ := List.mem_map.1 hm
    have := hi b (List.mem_cons_of_mem _ hb) a List.mem_cons_self e
    subst this
    exact (List.nodup_cons.1 hn).1 hb
section
variable {n : Nat} {f : Nat → Nat}
theorem PermF.itr_lt (h : PermF n f) {i : Nat} (hi : i < n) (k : Nat) : itr f k i < n := by
  induction k with
  | zero => exact hi
  | succ k ih => exact h.lt _ ih
theorem PermF.itr_inj (h : PermF n f) {i j : Nat} (hi : i < n) (hj : j < n) : ∀ k, itr f k i = itr f k j → i = j := by
  intro k
  induction k with
  | zero => exact id
  | succ k ih => intro e; exact ih (h.inj _ _ (h.itr_lt hi k) (h.itr_lt hj k) e)
/-- as long as i does not come back, its images are different numbers -/
theorem PermF.apart (h : PermF n f) {i : Nat} (hi : i < n) {m : Nat} (hm : ∀ k, 0 < k → k < m → itr f k i ≠ i) : m ≤ n := by
  have hn : ((List.range m).map (fun k => itr f k i)).Nodup := by
    refine nodup_map List.nodup_range ?_
    intro a ha b hb e
    rw [List.mem_range] at ha hb
    rcases Nat.lt_trichotomy a b with hab | hab | hab
    · exfalso
      have : itr f (b - a) i = i := by
        apply h.itr_inj (h.itr_lt hi _) hi a
        rw [← itr_add, show a + (b - a) = b from by omega]; exact e.symm
      exact hm (b - a) (by omega) (by omega) this
    · exact hab
    · exfalso
      have : itr f (a - b) i = i := by
        apply h.itr_inj (h.itr_lt hi _) hi b
        rw [← itr_add, show b + (a - b) = a from by omega]; exact e
      exact hm (a - b) (by omega) (by omega) this
  have := len_sub _ (List.range n) hn (fun x hx => by
    obtain ⟨k, _, rfl⟩ := List.mem_map.1 hx
    exact List.mem_range.2 (h.itr_lt hi k))
  simpa using this
theorem PermF.back (h : PermF n f) {i : Nat} (hi : i < n) : ∃ k, 0 < k ∧ k ≤ n ∧ itr f k i = i := by
  by_cases hb : ∃ k, 0 < k ∧ k ≤ n ∧ itr f k i = i
  · exact hb
  · have := h.apart hi (m := n + 1) (fun k h1 h2 e => hb ⟨k, h1, by omega, e⟩)
    omega
theorem PermF.symm (h : PermF n f) {i j : Nat} (hi : i < n) (hr : Rl f i j) : Rl f j i := by
  obtain ⟨k, rfl⟩ := hr
  induction k with
  | zero => exact Rl.refl f i
  | succ k ih =>
    refine Rl.trans ?_ ih
    obtain ⟨m, hm, _, e⟩ := h.back (h.itr_lt hi k)
    refine ⟨m - 1, ?_⟩
    show itr f (m - 1) (itr f (k + 1) i) = itr f k i
    have : itr f (m - 1) (itr f 1 (itr f k i)) = itr f k i := by rw [← itr_add, show m - 1 + 1 = m from by omega]; exact e
    exact this
theorem Rl.lt (h : PermF n f) {i j : Nat} (hi : i < n) (hr : Rl f i j) : j < n := by obtain ⟨k, rfl⟩ := hr; exact h.itr_lt hi k

/-- related, to be computed -/
def rB (f : Nat → Nat) (n j i : Nat) : Bool := (List.range (n + 1)).any fun k => itr f k j == i
theorem rB_iff (h : PermF n f) {j i : Nat} (hj : j < n) : rB f n j i = true ↔ Rl f j i := by
  simp only [rB, List.any_eq_true, List.mem_range, beq_iff_eq]
  constructor
  · rintro ⟨k, _, e⟩; exact ⟨k, e⟩
  · rintro ⟨k, e⟩
    induction k using Nat.strongRecOn with
    | _ k ih =>
      by_cases hk : k < n + 1
      · exact ⟨k, hk, e⟩
      · obtain ⟨m, hm, hmn, eb⟩ := h.back hj
        refine ih (k - m) (by omega) ?_
        rw [← e, show k = (k - m) + m from by omega, itr_add, eb]
        congr 1
        omega
/-- the numbers below n that are the least ones of their cycles -/
def heads (f : Nat → Nat) (n : Nat) : List Nat := (List.range n).filter fun i => (List.range i).all fun j => !rB f n j i
def cls (f : Nat → Nat) (n : Nat) : Nat := (heads f n).length
theorem mem_heads (h : PermF n f) {i : Nat} : i ∈ heads f n ↔ i < n ∧ ∀ j, j < i → ¬ Rl f j i := by
  simp only [heads, List.mem_filter, List.mem_range, List.all_eq_true, Bool.not_eq_true']
  constructor
  · rintro ⟨hi, hj⟩
    refine ⟨hi, fun j hlt hr => ?_⟩
    have := hj j hlt
    rw [(rB_iff h (by omega)).2 hr] at this
    cases this
  · rintro ⟨hi, hj⟩
    refine ⟨hi, fun j hlt => ?_⟩
    cases hr : rB f n j i with
    | false => rfl
    | true => exact absurd ((rB_iff h (by omega)).1 hr) (hj j hlt)
theorem heads_nodup : (heads f n).Nodup := List.nodup_range.filter _
theorem exists_head (h : PermF n f) : ∀ i, i < n → ∃ j, j ∈ heads f n ∧ Rl f j i := by
  intro i
  induction i using Nat.strongRecOn with
  | _ i ih =>
    intro hi
    by_cases hh : ∃ j, j < i ∧ Rl f j i
    · obtain ⟨j, hj, hr⟩ := hh
      obtain ⟨k, hk, hr'⟩ := ih j hj (by omega)
      exact ⟨k, hk, hr'.trans hr⟩
    · exact ⟨i, (mem_heads h).2 ⟨hi, fun j hj hr => hh ⟨j, hj, hr⟩⟩, Rl.refl f i⟩
theorem heads_inj (h : PermF n f) {i j : Nat} (hi : i ∈ heads f n) (hj : j ∈ heads f n) (hr : Rl f i j) : i = j := by
  have h1 := (mem_heads h).1 hi
  have h2 := (mem_heads h).1 hj
  rcases Nat.lt_trichotomy i j with hlt | e | hlt
  · exact absurd hr (h2.2 i hlt)
  · exact e
  · exact absurd (h.symm h1.1 hr) (h1.2 j hlt)
end

/-- a list with a choice for each of its elements -/
theorem choose_list {P : Nat → Nat → Prop} : ∀ (l : List Nat), (∀ i ∈ l, ∃ j, P i j) → ∃ g : Nat → Nat, ∀ i ∈ l, P i (g i) := by
  intro l
  induction l with
  | nil => intro _; exact ⟨id, fun i hi => by cases hi⟩
  | cons a l ih =>
    intro h
    obtain ⟨g, hg⟩ := ih (fun i hi => h i (List.mem_cons_of_mem _ hi))
    obtain ⟨j, hj⟩ := h a List.mem_cons_self
    refine ⟨fun i => if i = a then j else g i, fun i hi => ?_⟩
    by_cases e : i = a
    · subst e; simp only [if_true]; exact hj
    · simp only [e, if_false]
      rcases List.mem_cons.1 hi with e' | hi
      · exact absurd e' e
      · exact hg i hi

theorem cls_le {n m : Nat} {f g : Nat → Nat} (hf : PermF n f) (hg : PermF m g) (φ : Nat → Nat) (h1 : ∀ i, i < n → φ i < m) (h2 : ∀ i j, i < n → j < n → Rl g (φ i) (φ j) → Rl f i j) : cls f n ≤ cls g m := by
  obtain ⟨ρ, hρ⟩ := choose_list (P := fun i j => j ∈ heads g m ∧ Rl g j (φ i)) (heads f n) (fun i hi => exists_head hg _ (h1 i ((mem_heads hf).1 hi).1))
  have hn : ((heads f n).map ρ).Nodup := by
    refine nodup_map heads_nodup ?_
    intro i hi j hj e
    have a := hρ i hi
    have b := hρ j hj
    have hi' := ((mem_heads hf).1 hi).1
    have hj' := ((mem_heads hf).1 hj).1
    refine heads_inj hf hi hj (h2 i j hi' hj' ?_)
    refine Rl.trans (hg.symm ((mem_heads hg).1 a.1).1 a.2) ?_
    rw [e]
    exact b.2
  have := len_sub _ (heads g m) hn (fun x hx => by
    obtain ⟨i, hi, rfl⟩ := List.mem_map.1 hx
    exact (hρ i hi).1)
  simpa [cls] using this

/-- a map under which each step is a step or two keeps what is related -/
theorem rl_map {n : Nat} {f g : Nat → Nat} (hf : PermF n f) (φ : Nat → Nat) (h : ∀ i, i < n → Rl g (φ i) (φ (f i))) {i j : Nat} (hi : i < n) (hr : Rl f i j) : Rl g (φ i) (φ j) := by
  obtain ⟨k, rfl⟩ := hr
  induction k with
  | zero => exact Rl.refl g _
  | succ k ih => exact ih.trans (h _ (hf.itr_lt hi k))
theorem cls_eq {n m : Nat} {f g : Nat → Nat} (hf : PermF n f) (hg : PermF m g) (φ ψ : Nat → Nat) (a1 : ∀ i, i < n → φ i < m) (a2 : ∀ j, j < m → ψ j < n)
    (b1 : ∀ i, i < n → Rl g (φ i) (φ (f i))) (b2 : ∀ j, j < m → Rl f (ψ j) (ψ (g j))) (c1 : ∀ i, i < n → Rl f (ψ (φ i)) i) (c2 : ∀ j, j < m → Rl g (φ (ψ j)) j) : cls f n = cls g m := by
  refine Nat.le_antisymm (cls_le hf hg φ a1 (fun i j hi hj hr => ?_)) (cls_le hg hf ψ a2 (fun i j hi hj hr => ?_))
  · exact ((hf.symm (a2 _ (a1 i hi)) (c1 i hi)).trans (rl_map hg ψ b2 (a1 i hi) hr)).trans (c1 j hj)
  · exact ((hg.symm (a1 _ (a2 i hi)) (c2 i hi)).trans (rl_map hf φ b1 (a2 i hi) hr)).trans (c2 j hj)
end Go.Proofs.Ytcjaloddgilnpaa
