/- Small functions of the diagrams: Turn. -/
/- Classes of a relation, and how passes of least labels find them. -/
/- The labels of the graph components, as the reference finds them: plain. -/
/- unravelref01.Label. -/
import Derived.Test.YtlbihllmpbhhcaaDoorZBase
import Derived.Test.YtlbihllmpbhhcaaDoorChecked
import Derived.IntWalk
import Derived.Deep.LoopGhost
import Derived.Deep.RegionHeld3
import Derived.Deep.DeepCutAuto
import Derived.Test.YtlbihllmpbhhcaaDoorZBase2
import Derived.KernelRfl
import Derived.OwnWalk
namespace Go.Proofs.YtlbihllmpbhhcaaDoor
open Go.RowKit
set_option linter.unusedVariables false

/-- the half-edge k slots further -/
def turnN (h k : Nat) : Nat := h / 4 * 4 + (h % 4 + k) % 4

set_option maxHeartbeats 400000 in
theorem turn_code (h : Nat) (w : World) (hh : h < 1000) :
    Calls Tryd.prog 90 #[.int .i64 h, .int .i64 (-1)] w fun e w' => e = .returned (.int .i64 (turnN h 3)) ∧ w = w' := by
  have u0 : ¬ ((h : Int) < 0) := by omega
  rcases (by omega : h % 4 = 0 ∨ h % 4 = 1 ∨ h % 4 = 2 ∨ h % 4 = 3) with q | q | q | q
  · have q1 : (h : Int) % 4 = 0 := by omega
    go_enter Tryd.func90, Tryd.ntmps90
    go_wp2_with fail
    go_ret
    exact ⟨congrArg (fun z => Ending.returned (Value.int .i64 z)) (by unfold turnN; go_num), rfl⟩
  · have q1 : (h : Int) % 4 = 1 := by omega
    go_enter Tryd.func90, Tryd.ntmps90
    go_wp2_with fail
    go_ret
    exact ⟨congrArg (fun z => Ending.returned (Value.int .i64 z)) (by unfold turnN; go_num), rfl⟩
  · have q1 : (h : Int) % 4 = 2 := by omega
    go_enter Tryd.func90, Tryd.ntmps90
    go_wp2_with fail
    go_ret
    exact ⟨congrArg (fun z => Ending.returned (Value.int .i64 z)) (by unfold turnN; go_num), rfl⟩
  · have q1 : (h : Int) % 4 = 3 := by omega
    go_enter Tryd.func90, Tryd.ntmps90
    go_wp2_with fail
    go_ret
    exact ⟨congrArg (fun z => Ending.returned (Value.int .i64 z)) (by unfold turnN; go_num), rfl⟩
/-- is a half-edge outgoing? -/
def outB (S : List Int) (h : Nat) : Bool := if h % 4 = 1 then S[h / 4]?.getD 0 == 1 else if h % 4 = 2 then true else if h % 4 = 3 then S[h / 4]?.getD 0 == -1 else false
set_option maxHeartbeats 400000 in
theorem out_code (vs vm : Value) (L : Int) (S : List Int) (h : Nat) (w : World) (hS : Ints w vs S) (hh : h / 4 < S.length) (hl : S.length ≤ 250) :
    Calls Tryd.prog 74 #[.agg #[vs, vm, .int .i64 L], .int .i64 h] w fun e w' => e = .returned (.bool (outB S h)) ∧ Below w.heap.size w w' := by
  have hS0 := hS
  obtain ⟨A, c, rfl, hc, hx⟩ := hS
  clear hx
  obtain ⟨b, o, rfl, hbl, hcell⟩ := hS0.at_ hh
  have hg : S[h / 4]?.getD 0 = S[h / 4] := by rw [List.getElem?_eq_getElem hh]; rfl
  have hfin := show outB S h = if h % 4 = 1 then S[h / 4] == 1 else if h % 4 = 2 then true else if h % 4 = 3 then S[h / 4] == -1 else false by unfold outB; rw [hg]
  clear hg
  generalize S[h / 4] = x at *
  have u4 : h < 1000 := by omega
  have u1 : ((h : Int) / 4) = ((h / 4 : Nat) : Int) := by omega
  have q1 : (h : Int) % 4 = ((h % 4 : Nat) : Int) := by omega
  generalize h / 4 = k at *
  generalize outB S h = B at *
  have q5 : h % 4 < 4 := Nat.mod_lt _ (by omega)
  generalize h % 4 = j at *
  have u2 : (k : Int) < (S.length : Int) := by omega
  have hW : Arr (w.alloc (.cells #[.slice (some ⟨b, o, none⟩) S.length c, vm, .int .i64 L] 61)) w.heap.size 61 [.slice (some ⟨b, o, none⟩) S.length c, vm, .int .i64 L] ∧ Below w.heap.size w (w.alloc (.cells #[.slice (some ⟨b, o, none⟩) S.length c, vm, .int .i64 L] 61)) := ⟨Arr.new w _ _, (Below.refl _ _).alloc (Nat.le_refl _) _⟩
  rcases (by omega : j = 0 ∨ j = 1 ∨ j = 2 ∨ j = 3) with q | q | q | q
  all_goals
    subst j
    simp at hfin q1
    subst hfin
    clear q5
    go_enter Tryd.func74, Tryd.ntmps74
    go_upto_region 1 with fail
    generalize (w.alloc (.cells #[.slice (some ⟨b, o, none⟩) S.length c, vm, .int .i64 L] 61)) = w4 at hW ⊢
    obtain ⟨q0, hb4⟩ := hW
    have y0 := q0.cell 0
    have hcell4 := (hb4.cell hbl).trans hcell
    clear q0 hcell
    go_wp2_with fail
    go_ret
    exact ⟨rfl, hb4⟩
end Go.Proofs.YtlbihllmpbhhcaaDoor

namespace Go.Proofs.YtlbihllmpbhhcaaDoor
set_option linter.unusedVariables false

/-- the closure of a relation -/
inductive Conn (E : Nat → Nat → Prop) : Nat → Nat → Prop
  | refl (a : Nat) : Conn E a a
  | step {a b c : Nat} : Conn E a b → E b c → Conn E a c
namespace Conn
variable {E : Nat → Nat → Prop} {a b c : Nat}
theorem one (h : E a b) : Conn E a b := .step (.refl a) h
theorem trans (h : Conn E a b) (k : Conn E b c) : Conn E a c := by
  induction k with
  | refl => exact h
  | step _ e ih => exact .step ih e
theorem symm (hE : ∀ a b, E a b → E b a) (h : Conn E a b) : Conn E b a := by
  induction h with
  | refl => exact .refl _
  | step _ e ih => exact (one (hE _ _ e)).trans ih
/-- a set that is closed under the relation -/
theorem closed {P : Nat → Prop} (hP : ∀ a b, E a b → P a → P b) (h : Conn E a b) (ha : P a) : P b := by
  induction h with
  | refl => exact ha
  | step _ e ih => exact hP _ _ e ih
end Conn

theorem countP_lt {p q : Nat → Bool} : ∀ (l : List Nat), (∀ x ∈ l, p x = true → q x = true) → (∃ x ∈ l, q x = true ∧ p x = false) → l.countP p < l.countP q
  | [], _, h => by obtain ⟨x, hx, _⟩ := h; cases hx
  | a :: l, hm, h => by
    have hle : l.countP p ≤ l.countP q := List.countP_mono_left (fun x hx => hm x (List.mem_cons_of_mem _ hx))
    rw [List.countP_cons, List.countP_cons]
    by_cases hx : ∃ x ∈ l, q x = true ∧ p x = false
    · have := countP_lt l (fun x hx => hm x (List.mem_cons_of_mem _ hx)) hx
      have ha := hm a (by simp)
      cases hp : p a <;> cases hq : q a <;> simp_all <;> omega
    · obtain ⟨x, hx1, hx2, hx3⟩ := h
      rcases List.mem_cons.1 hx1 with rfl | hx1
      · simp [hx2, hx3]; omega
      · exact absurd ⟨x, hx1, hx2, hx3⟩ hx

/-- after n passes each label is at most every element of its class -/
theorem passes {n : Nat} {E : Nat → Nat → Prop} (hE : ∀ a b, E a b → a < n ∧ b < n) (T : Nat → Nat → Nat) (h0 : ∀ c, c < n → T 0 c ≤ c)
    (hd : ∀ t c, T (t + 1) c ≤ T t c) (he : ∀ t a b, E a b → T (t + 1) b ≤ T t a) {m c : Nat} (hm : m < n) (hc : Conn E m c) : T n c ≤ m := by
  have down : ∀ t, T t m ≤ m := by
    intro t
    induction t with
    | zero => exact h0 m hm
    | succ t ih => exact Nat.le_trans (hd t m) ih
  have key : ∀ t, (∀ c, Conn E m c → T t c ≤ m) ∨ t + 1 ≤ (List.range n).countP (fun c => decide (T t c ≤ m)) := by
    intro t
    induction t with
    | zero =>
      refine Or.inr ?_
      rw [Nat.zero_add]
      exact List.countP_pos_iff.2 ⟨m, List.mem_range.2 hm, by simpa using h0 m hm⟩
    | succ t ih =>
      rcases ih with ih | ih
      · exact Or.inl fun c h => Nat.le_trans (hd t c) (ih c h)
      · by_cases hx : ∃ c ∈ List.range n, decide (T (t + 1) c ≤ m) = true ∧ decide (T t c ≤ m) = false
        · refine Or.inr (Nat.lt_of_le_of_lt ih ?_)
          refine countP_lt _ (fun x _ h => ?_) hx
          have := hd t x
          simp only [decide_eq_true_eq] at h ⊢
          omega
        · refine Or.inl fun c h => ?_
          have hcl : T t c ≤ m := by
            refine h.closed (P := fun c => T t c ≤ m) (fun a b e ha => ?_) (down t)
            have h1 := he t a b e
            rcases Nat.lt_or_ge m (T t b) with h2 | h2
            · exact absurd ⟨b, List.mem_range.2 (hE a b e).2, by simp; omega, by simp; omega⟩ hx
            · exact h2
          exact Nat.le_trans (hd t c) hcl
  rcases key n with h | h
  · exact h c hc
  · have := List.countP_le_length (p := fun c => decide (T n c ≤ m)) (l := List.range n)
    rw [List.length_range] at this
    omega
end Go.Proofs.YtlbihllmpbhhcaaDoor

namespace Go.Proofs.YtlbihllmpbhhcaaDoor
set_option linter.unusedVariables false

/-- the mate of a half-edge -/
def mt (M : List Int) (h : Nat) : Nat := (M[h]?.getD 0).toNat
/-- an element of a list of numbers -/
def gn (l : List Nat) (k : Nat) : Nat := l[k]?.getD 0
theorem gn_set (l : List Nat) (a x c : Nat) (ha : a < l.length) : gn (l.set a x) c = if c = a then x else gn l c := by
  unfold gn
  rw [List.getElem?_set]
  by_cases h : a = c
  · subst h; simp [ha]
  · simp [h, Ne.symm h]
/-- one step of a pass: the two ends of an edge take the lesser label -/
def opL (M : List Int) (l : List Nat) (h : Nat) : List Nat :=
  (l.set (h / 4) (min (gn l (h / 4)) (gn l (mt M h / 4)))).set (mt M h / 4) (min (gn l (h / 4)) (gn l (mt M h / 4)))
def passK (M : List Int) (l : List Nat) : Nat → List Nat
  | 0 => l
  | k + 1 => opL M (passK M l k) k
def labK (M : List Int) (n : Nat) : Nat → List Nat
  | 0 => List.range n
  | t + 1 => passK M (labK M n t) M.length
theorem opL_length (M : List Int) (l : List Nat) (h : Nat) : (opL M l h).length = l.length := by simp [opL]
theorem passK_length (M : List Int) (l : List Nat) : ∀ k, (passK M l k).length = l.length
  | 0 => rfl
  | k + 1 => by rw [passK, opL_length, passK_length M l k]
theorem labK_length (M : List Int) (n : Nat) : ∀ t, (labK M n t).length = n
  | 0 => by simp [labK]
  | t + 1 => by rw [labK, passK_length, labK_length M n t]
/-- the mates of a graph with n crossings lie in range -/
def Rg (M : List Int) (n : Nat) : Prop := M.length = 4 * n ∧ ∀ h, h < 4 * n → mt M h < 4 * n
/-- an edge of the graph -/
def Ed (M : List Int) (a b : Nat) : Prop := ∃ h, h < M.length ∧ ((a = h / 4 ∧ b = mt M h / 4) ∨ (b = h / 4 ∧ a = mt M h / 4))
theorem Ed.symm {M : List Int} {a b : Nat} (h : Ed M a b) : Ed M b a := by
  obtain ⟨h, h1, h2 | h2⟩ := h
  · exact ⟨h, h1, Or.inr ⟨h2.1, h2.2⟩⟩
  · exact ⟨h, h1, Or.inl ⟨h2.1, h2.2⟩⟩
section
variable {M : List Int} {n : Nat} (hR : Rg M n)
include hR
theorem Ed.lt {a b : Nat} (h : Ed M a b) : a < n ∧ b < n := by
  obtain ⟨h, h1, h2⟩ := h
  have h3 := hR.1
  have h4 := hR.2 h (by omega)
  omega
theorem gn_opL {l : List Nat} (hl : l.length = n) {h : Nat} (hh : h < M.length) (c : Nat) :
    gn (opL M l h) c = if c = h / 4 ∨ c = mt M h / 4 then min (gn l (h / 4)) (gn l (mt M h / 4)) else gn l c := by
  have h3 := hR.1
  have h4 := hR.2 h (by omega)
  unfold opL
  rw [gn_set _ _ _ _ (by rw [List.length_set]; omega), gn_set _ _ _ _ (by omega)]
  by_cases e1 : c = mt M h / 4
  · simp [e1]
  · by_cases e2 : c = h / 4
    · simp [e2]
    · simp [e1, e2]
theorem opL_le {l : List Nat} (hl : l.length = n) {h : Nat} (hh : h < M.length) (c : Nat) : gn (opL M l h) c ≤ gn l c := by
  rw [gn_opL hR hl hh]
  split
  · rename_i e
    rcases e with e | e <;> subst e <;> omega
  · exact Nat.le_refl _
theorem passK_le {l : List Nat} (hl : l.length = n) (c : Nat) : ∀ (k j : Nat), j ≤ k → k ≤ M.length → gn (passK M l k) c ≤ gn (passK M l j) c := by
  intro k
  induction k with
  | zero => intro j h1 _; have : j = 0 := by omega
            subst this; exact Nat.le_refl _
  | succ k ih =>
    intro j h1 h2
    rcases Nat.lt_or_ge j (k + 1) with h | h
    · refine Nat.le_trans ?_ (ih j (by omega) (by omega))
      exact opL_le hR (by rw [passK_length]; exact hl) (by omega) c
    · have : j = k + 1 := by omega
      subst this; exact Nat.le_refl _
theorem passK_edge {l : List Nat} (hl : l.length = n) {a b : Nat} (h : Ed M a b) : gn (passK M l M.length) b ≤ gn l a := by
  obtain ⟨h, h1, h2⟩ := h
  have e1 := passK_le hR hl b M.length (h + 1) (by omega) (Nat.le_refl _)
  have e2 := passK_le hR hl a h 0 (by omega) (by omega)
  have e3 := gn_opL hR (l := passK M l h) (by rw [passK_length]; exact hl) h1 b
  have e4 : gn (passK M l 0) a = gn l a := rfl
  rw [passK, e3] at e1
  rw [e4] at e2
  rw [if_pos (by rcases h2 with h2 | h2 <;> omega)] at e1
  rcases h2 with ⟨rfl, rfl⟩ | ⟨rfl, rfl⟩ <;> omega
theorem opL_conn {l : List Nat} (hl : l.length = n) (hc : ∀ c, c < n → Conn (Ed M) c (gn l c)) {h : Nat} (hh : h < M.length) (c : Nat) (hcn : c < n) : Conn (Ed M) c (gn (opL M l h) c) := by
  have h3 := hR.1
  have h4 := hR.2 h (by omega)
  have ed : Ed M (h / 4) (mt M h / 4) := ⟨h, hh, Or.inl ⟨rfl, rfl⟩⟩
  rw [gn_opL hR hl hh]
  split
  · rename_i e
    have c1 := hc (h / 4) (by omega)
    have c2 := hc (mt M h / 4) (by omega)
    have d1 : Conn (Ed M) c (h / 4) := by
      rcases e with e | e <;> subst e
      · exact .refl _
      · exact .one ed.symm
    have d2 : Conn (Ed M) c (mt M h / 4) := by
      rcases e with e | e <;> subst e
      · exact .one ed
      · exact .refl _
    rcases Nat.le_total (gn l (h / 4)) (gn l (mt M h / 4)) with q | q
    · rw [Nat.min_eq_left q]; exact d1.trans c1
    · rw [Nat.min_eq_right q]; exact d2.trans c2
  · exact hc c hcn
theorem passK_conn {l : List Nat} (hl : l.length = n) (hc : ∀ c, c < n → Conn (Ed M) c (gn l c)) : ∀ k, k ≤ M.length → ∀ c, c < n → Conn (Ed M) c (gn (passK M l k) c) := by
  intro k
  induction k with
  | zero => intro _; exact hc
  | succ k ih =>
    intro h c hcn
    exact opL_conn hR (by rw [passK_length]; exact hl) (ih (by omega)) (by omega) c hcn
theorem labK_conn : ∀ t c, c < n → Conn (Ed M) c (gn (labK M n t) c) := by
  intro t
  induction t with
  | zero => intro c hc; rw [labK, gn, List.getElem?_range hc]; exact .refl _
  | succ t ih => exact passK_conn hR (labK_length M n t) ih _ (Nat.le_refl _)
/-- the label is the least of the component -/
theorem labK_least {c m : Nat} (hm : m < n) (h : Conn (Ed M) m c) : gn (labK M n n) c ≤ m := by
  refine passes (E := Ed M) (n := n) (fun a b e => e.lt hR) (fun t c => gn (labK M n t) c) ?_ ?_ ?_ hm h
  · intro c hc; show gn (labK M n 0) c ≤ c
    rw [labK, gn, List.getElem?_range hc]; exact Nat.le_refl _
  · intro t c; exact passK_le hR (labK_length M n t) c M.length 0 (by omega) (Nat.le_refl _)
  · intro t a b e; exact passK_edge hR (labK_length M n t) e
end
end Go.Proofs.YtlbihllmpbhhcaaDoor

namespace Go.Proofs.YtlbihllmpbhhcaaDoor
open Go.RowKit
set_option linter.unusedVariables false

/-- numbers as cells -/
def nc (l : List Nat) : List Value := l.map fun (k : Nat) => Value.int .i64 (k : Int)
theorem nc_get {l : List Nat} {k : Nat} (h : k < l.length) : (nc l)[k]? = some (.int .i64 (gn l k : Nat)) := by
  unfold nc gn; rw [List.getElem?_map, List.getElem?_eq_getElem h]; rfl
theorem nc_set (l : List Nat) (k x : Nat) : (nc l).set k (.int .i64 (x : Nat)) = nc (l.set k x) := by
  unfold nc; rw [List.map_set]
theorem mt_at {w : World} {A : Option Addr} {n c h : Nat} {M : List Int} (hM : Ints w (.slice A n c) M) (hh : h < M.length) (h0 : 0 ≤ M[h]) :
    ∃ b o, A = some ⟨b, o, none⟩ ∧ b < w.heap.size ∧ w.cell? ⟨b, o + h, none⟩ = some (.int .i64 (mt M h : Nat)) := by
  obtain ⟨b, o, hA, hb, hc⟩ := hM.at_ hh
  refine ⟨b, o, hA, hb, ?_⟩
  rw [hc, mt, List.getElem?_eq_getElem hh]
  simp only [Option.getD_some]
  rw [Int.toNat_of_nonneg h0]
/-- the list of the first k numbers, then zeros -/
def upto (n k : Nat) : List Nat := (List.range n).map fun i => if i < k then i else 0
theorem upto_zero (n : Nat) : nc (upto n 0) = List.replicate n (.int .i64 0) := by
  apply List.ext_getElem?
  intro i
  unfold nc upto
  simp [List.getElem?_replicate]
  by_cases h : i < n <;> simp [h]
theorem upto_all (n : Nat) : upto n n = List.range n := by
  apply List.ext_getElem?
  intro i
  unfold upto
  simp
  by_cases h : i < n <;> simp [h]
theorem upto_step {n k : Nat} (h : k < n) : (upto n k).set k k = upto n (k + 1) := by
  apply List.ext_getElem?
  intro i
  unfold upto
  rw [List.getElem?_set]
  by_cases e : k = i
  · subst e; simp [h]
  · simp [e]
    by_cases hi : i < n <;> simp [hi]
    split <;> split <;> omega
theorem upto_length (n k : Nat) : (upto n k).length = n := by simp [upto]

theorem info_int : (Tryd.prog.info? 3).map (fun i => (i.zero, i.size, i.bytes)) = some (some (.int .i64 0), 1, 8) := by kernel_rfl

end Go.Proofs.YtlbihllmpbhhcaaDoor
