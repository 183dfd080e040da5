/- Words: a slice of moves that reads as a list; slices that survive writes to some blocks. -/
/- Cycles of a permutation: how many there are, and maps that keep them. -/
/- The number of components is kept by the moves. -/
/- Least translations: plain facts. -/
import Derived.Test.YteigjfdgijaifaaDoorZFresh
namespace Go.Proofs.YteigjfdgijaifaaDoor
open Go.RowKit
set_option linter.unusedVariables false

structure Mv where
  k : Int
  rows : Bool
  a : Int
  v : Int
def Mv.cells (m : Mv) : List Value := [.int .i64 m.k, .bool m.rows, .int .i64 m.a, .int .i64 m.v]
def Mv.app (m : Mv) (X O : List Int) : Int × List Int × List Int := applyM X O m.k m.rows m.a m.v

/-- the value is a slice that reads as the moves ms -/
def Moves (w : World) (v : Value) (ms : List Mv) : Prop :=
  ∃ A c, v = .slice A ms.length c ∧ ∀ k (h : k < ms.length), ∃ b o, A = some ⟨b, o, none⟩ ∧ ∀ j u, ms[k].cells[j]? = some u → w.cell? ⟨b, o + k * 4 + j, none⟩ = some u
theorem Moves.below {w w' : World} {v : Value} {ms : List Mv} (h : Moves w v ms) (hb : Below w.heap.size w w') : Moves w' v ms := by
  obtain ⟨A, c, hv, hx⟩ := h
  refine ⟨A, c, hv, fun k hk => ?_⟩
  obtain ⟨b, o, hA, hc⟩ := hx k hk
  exact ⟨b, o, hA, fun j u hu => (hb.cell (block_lt_of_cell (hc j u hu))).trans (hc j u hu)⟩
theorem Moves.at_ {w : World} {A : Option Addr} {n c k : Nat} {ms : List Mv} (h : Moves w (.slice A n c) ms) (hk : k < ms.length) :
    ∃ b o, A = some ⟨b, o, none⟩ ∧ b < w.heap.size ∧ w.cell? ⟨b, o + k * 4, none⟩ = some (.int .i64 ms[k].k) ∧ w.cell? ⟨b, o + k * 4 + 1, none⟩ = some (.bool ms[k].rows) ∧ w.cell? ⟨b, o + k * 4 + 2, none⟩ = some (.int .i64 ms[k].a) ∧ w.cell? ⟨b, o + k * 4 + 3, none⟩ = some (.int .i64 ms[k].v) := by
  obtain ⟨A', c', hv, hx⟩ := h
  injection hv with h1 h2 h3
  subst h1
  obtain ⟨b, o, hA, hc⟩ := hx k hk
  have h0 := hc 0 _ rfl
  exact ⟨b, o, hA, block_lt_of_cell h0, h0, hc 1 _ rfl, hc 2 _ rfl, hc 3 _ rfl⟩

/-- the slice reads as xs in every world that differs from w in the blocks of E at most -/
def IntsE (E : Nat → Prop) (w : World) (v : Value) (xs : List Int) : Prop := ∀ W : World, (∀ b, ¬ E b → b < w.heap.size → W.heap[b]? = w.heap[b]?) → Ints W v xs
theorem IntsE.ints {E : Nat → Prop} {w : World} {v : Value} {xs : List Int} (h : IntsE E w v xs) : Ints w v xs := h w (fun _ _ _ => rfl)
theorem IntsE.below {E : Nat → Prop} {w w' : World} {v : Value} {xs : List Int} (h : IntsE E w v xs) (hb : Below w.heap.size w w') : IntsE E w' v xs :=
  fun W hW => h W (fun b hE hlt => (hW b hE (Nat.lt_of_lt_of_le hlt hb.size)).trans (hb.block b hlt))
theorem IntsE.set2 {E : Nat → Prop} {w : World} {v : Value} {xs : List Int} (h : IntsE E w v xs) {r : Nat} (hr : E r) (i j : Nat) (u u' : Value) : IntsE E ((w.setCell ⟨r, i, none⟩ u).setCell ⟨r, j, none⟩ u') v xs :=
  fun W hW => h W (fun b hE hlt => (hW b hE (by simpa [World.setCell] using hlt)).trans (heap_set2 w r i j b u u' (fun e => hE (by rw [e]; exact hr))))
theorem IntsE.of_fresh {E : Nat → Prop} {B : Nat} {w : World} {v : Value} {xs : List Int} (h : IntsF B w v xs) (hE : ∀ b, E b → b < B) : IntsE E w v xs :=
  fun W hW => h W (fun b hb hlt => hW b (fun e => by have := hE b e; omega) hlt)
theorem IntsE.nil (E : Nat → Prop) (w : World) : IntsE E w (.slice none 0 0) [] := fun W _ => Ints.nil W
theorem IntsE.of_arr {E : Nat → Prop} {w : World} {g : Nat} {t : TypeId} {xs : List Int} (h : Arr w g t (Go.Proofs.YteigjfdgijaifaaDoor.ints xs)) (hE : ¬ E g) : IntsE E w (.slice (some ⟨g, 0, none⟩) xs.length xs.length) xs :=
  fun W hW => Ints.of_arr (t := t) ((hW g hE h.lt).trans h)

/-- moves one after the other: the error number, the last grid, the place of the first move that fails -/
def playFrom : Nat → List Int → List Int → List Mv → Int × List Int × List Int × Int
  | _, X, O, [] => (0, X, O, -1)
  | i, X, O, m :: ms => if (m.app X O).1 = 0 then playFrom (i + 1) (m.app X O).2.1 (m.app X O).2.2 ms else ((m.app X O).1, [], [], i)
theorem playFrom_drop (X O : List Int) (ms : List Mv) {k : Nat} (h : k < ms.length) : playFrom k X O (ms.drop k) = if (ms[k].app X O).1 = 0 then playFrom (k + 1) (ms[k].app X O).2.1 (ms[k].app X O).2.2 (ms.drop (k + 1)) else ((ms[k].app X O).1, [], [], k) := by
  rw [List.drop_eq_getElem_cons h, playFrom]
def playM (X O : List Int) (ms : List Mv) : Int × List Int × List Int × Int :=
  if validB X O = false then (1, [], [], -1) else playFrom 0 X O ms

theorem trl_zero {l : List Int} (h : Pm l) : trl 0 0 l = l := by
  apply List.ext_getElem?
  intro j
  by_cases hj : j < l.length
  · rw [List.getElem?_eq_getElem hj]
    have hg := h.get hj
    have e1 : ∀ k, k < l.length → (((k : Int) + (0 : Nat)) % (l.length : Int)) = k := fun k hk => by rw [show ((k : Int) + (0 : Nat)) = k from by simp]; exact Int.emod_eq_of_lt (by omega) (by omega)
    refine (reloc_get (mv := mvTr l.length (0 : Nat) (0 : Nat)) hj hj (e1 j hj) (fun k' h' hne e => ?_)).trans ?_
    · have := e1 k' h'
      simp only [mvTr] at e
      omega
    · simp only [mvTr]
      rw [show l[j] + ((0 : Nat) : Int) = l[j] from by simp, Int.emod_eq_of_lt hg.1 hg.2]
  · rw [List.getElem?_eq_none (by unfold trl; rw [reloc_length]; omega), List.getElem?_eq_none (by omega)]
theorem shiftM_zero {X O : List Int} (h : Vd X O) : shiftM X O 0 0 = (0, X, O) := by
  unfold shiftM
  rw [if_neg (by simp [(validB_iff X O).2 h])]
  simp only [Int.zero_emod, Int.toNat_zero]
  rw [trl_zero h.pX, trl_zero h.pO]
end Go.Proofs.YteigjfdgijaifaaDoor

namespace Go.Proofs.YteigjfdgijaifaaDoor
set_option linter.unusedVariables false
open Go.RowKit

def itr (f : Nat → Nat) : Nat → Nat → Nat
  | 0, i => i
  | k + 1, i => f (itr f k i)
theorem itr_add (f : Nat → Nat) (a b i : Nat) : itr f (a + b) i = itr f a (itr f b i) := by
  induction a with
  | zero => rw [Nat.zero_add]; rfl
  | succ a ih => rw [Nat.succ_add, itr, itr, ih]

structure PermF (n : Nat) (f : Nat → Nat) : Prop where
  lt : ∀ i, i < n → f i < n
  inj : ∀ i j, i < n → j < n → f i = f j → i = j

def Rl (f : Nat → Nat) (i j : Nat) : Prop := ∃ k, itr f k i = j
theorem Rl.refl (f : Nat → Nat) (i : Nat) : Rl f i i := ⟨0, rfl⟩
theorem Rl.step (f : Nat → Nat) (i : Nat) : Rl f i (f i) := ⟨1, rfl⟩
theorem Rl.trans {f : Nat → Nat} {i j k : Nat} (h : Rl f i j) (h' : Rl f j k) : Rl f i k := by
  obtain ⟨a, ha⟩ := h
  obtain ⟨b, hb⟩ := h'
  exact ⟨b + a, by rw [itr_add, ha, hb]⟩

theorem len_sub : ∀ (l X : List Nat), l.Nodup → (∀ x ∈ l, x ∈ X) → l.length ≤ X.length := by
  intro l
  induction l with
  | nil => intro X _ _; simp
  | cons a l ih =>
    intro X hn hs
    have ha := hs a List.mem_cons_self
    have := ih (X.erase a) (List.nodup_cons.1 hn).2 (fun x hx => by
      rw [List.mem_erase_of_ne]
      · exact hs x (List.mem_cons_of_mem _ hx)
      · intro e; subst e; exact (List.nodup_cons.1 hn).1 hx)
    rw [List.length_erase_of_mem ha] at this
    have hpos : 0 < X.length := List.length_pos_of_mem ha
    simp only [List.length_cons]
    omega

theorem nodup_map {g : Nat → Nat} : ∀ {l : List Nat}, l.Nodup → (∀ a, a ∈ l → ∀ b, b ∈ l → g a = g b → a = b) → (l.map g).Nodup := by
  intro l
  induction l with
  | nil => intro _ _; simp
  | cons a l ih =>
    intro hn hi
    rw [List.map_cons, List.nodup_cons]
    refine ⟨fun hm => ?_, ih (List.nodup_cons.1 hn).2 (fun x hx y hy => hi x (List.mem_cons_of_mem _ hx) y (List.mem_cons_of_mem _ hy))⟩
    obtain ⟨b, hb, e⟩ := List.mem_map.1 hm
    have := hi b (List.mem_cons_of_mem _ hb) a List.mem_cons_self e
    subst this
    exact (List.nodup_cons.1 hn).1 hb
section
variable {n : Nat} {f : Nat → Nat}
theorem PermF.itr_lt (h : PermF n f) {i : Nat} (hi : i < n) (k : Nat) : itr f k i < n := by
  induction k with
  | zero => exact hi
  | succ k ih => exact h.lt _ ih
theorem PermF.itr_inj (h : PermF n f) {i j : Nat} (hi : i < n) (hj : j < n) : ∀ k, itr f k i = itr f k j → i = j := by
  intro k
  induction k with
  | zero => exact id
  | succ k ih => intro e; exact ih (h.inj _ _ (h.itr_lt hi k) (h.itr_lt hj k) e)
/-- as long as i does not come back, its images are different numbers -/
theorem PermF.apart (h : PermF n f) {i : Nat} (hi : i < n) {m : Nat} (hm : ∀ k, 0 < k → k < m → itr f k i ≠ i) : m ≤ n := by
  have hn : ((List.range m).map (fun k => itr f k i)).Nodup := by
    refine nodup_map List.nodup_range ?_
    intro a ha b hb e
    rw [List.mem_range] at ha hb
    rcases Nat.lt_trichotomy a b with hab | hab | hab
    · exfalso
      have : itr f (b - a) i = i := by
        apply h.itr_inj (h.itr_lt hi _) hi a
        rw [← itr_add, show a + (b - a) = b from by omega]; exact e.symm
      exact hm (b - a) (by omega) (by omega) this
    · exact hab
    · exfalso
      have : itr f (a - b) i = i := by
        apply h.itr_inj (h.itr_lt hi _) hi b
        rw [← itr_add, show b + (a - b) = a from by omega]; exact e
      exact hm (a - b) (by omega) (by omega) this
  have := len_sub _ (List.range n) hn (fun x hx => by
    obtain ⟨k, _, rfl⟩ := List.mem_map.1 hx
    exact List.mem_range.2 (h.itr_lt hi k))
  simpa using this
theorem PermF.back (h : PermF n f) {i : Nat} (hi : i < n) : ∃ k, 0 < k ∧ k ≤ n ∧ itr f k i = i := by
  by_cases hb : ∃ k, 0 < k ∧ k ≤ n ∧ itr f k i = i
  · exact hb
  · have := h.apart hi (m := n + 1) (fun k h1 h2 e => hb ⟨k, h1, by omega, e⟩)
    omega
theorem PermF.symm (h : PermF n f) {i j : Nat} (hi : i < n) (hr : Rl f i j) : Rl f j i := by
  obtain ⟨k, rfl⟩ := hr
  induction k with
  | zero => exact Rl.refl f i
  | succ k ih =>
    refine Rl.trans ?_ ih
    obtain ⟨m, hm, _, e⟩ := h.back (h.itr_lt hi k)
    refine ⟨m - 1, ?_⟩
    show itr f (m - 1) (itr f (k + 1) i) = itr f k i
    have : itr f (m - 1) (itr f 1 (itr f k i)) = itr f k i := by rw [← itr_add, show m - 1 + 1 = m from by omega]; exact e
    exact this
theorem Rl.lt (h : PermF n f) {i j : Nat} (hi : i < n) (hr : Rl f i j) : j < n := by obtain ⟨k, rfl⟩ := hr; exact h.itr_lt hi k

/-- related, to be computed -/
def rB (f : Nat → Nat) (n j i : Nat) : Bool := (List.range (n + 1)).any fun k => itr f k j == i
theorem rB_iff (h : PermF n f) {j i : Nat} (hj : j < n) : rB f n j i = true ↔ Rl f j i := by
  simp only [rB, List.any_eq_true, List.mem_range, beq_iff_eq]
  constructor
  · rintro ⟨k, _, e⟩; exact ⟨k, e⟩
  · rintro ⟨k, e⟩
    induction k using Nat.strongRecOn with
    | _ k ih =>
      by_cases hk : k < n + 1
      · exact ⟨k, hk, e⟩
      · obtain ⟨m, hm, hmn, eb⟩ := h.back hj
        refine ih (k - m) (by omega) ?_
        rw [← e, show k = (k - m) + m from by omega, itr_add, eb]
        congr 1
        omega
/-- the numbers below n that are the least ones of their cycles -/
def heads (f : Nat → Nat) (n : Nat) : List Nat := (List.range n).filter fun i => (List.range i).all fun j => !rB f n j i
def cls (f : Nat → Nat) (n : Nat) : Nat := (heads f n).length
theorem mem_heads (h : PermF n f) {i : Nat} : i ∈ heads f n ↔ i < n ∧ ∀ j, j < i → ¬ Rl f j i := by
  simp only [heads, List.mem_filter, List.mem_range, List.all_eq_true, Bool.not_eq_true']
  constructor
  · rintro ⟨hi, hj⟩
    refine ⟨hi, fun j hlt hr => ?_⟩
    have := hj j hlt
    rw [(rB_iff h (by omega)).2 hr] at this
    cases this
  · rintro ⟨hi, hj⟩
    refine ⟨hi, fun j hlt => ?_⟩
    cases hr : rB f n j i with
    | false => rfl
    | true => exact absurd ((rB_iff h (by omega)).1 hr) (hj j hlt)
theorem heads_nodup : (heads f n).Nodup := List.nodup_range.filter _
theorem exists_head (h : PermF n f) : ∀ i, i < n → ∃ j, j ∈ heads f n ∧ Rl f j i := by
  intro i
  induction i using Nat.strongRecOn with
  | _ i ih =>
    intro hi
    by_cases hh : ∃ j, j < i ∧ Rl f j i
    · obtain ⟨j, hj, hr⟩ := hh
      obtain ⟨k, hk, hr'⟩ := ih j hj (by omega)
      exact ⟨k, hk, hr'.trans hr⟩
    · exact ⟨i, (mem_heads h).2 ⟨hi, fun j hj hr => hh ⟨j, hj, hr⟩⟩, Rl.refl f i⟩
theorem heads_inj (h : PermF n f) {i j : Nat} (hi : i ∈ heads f n) (hj : j ∈ heads f n) (hr : Rl f i j) : i = j := by
  have h1 := (mem_heads h).1 hi
  have h2 := (mem_heads h).1 hj
  rcases Nat.lt_trichotomy i j with hlt | e | hlt
  · exact absurd hr (h2.2 i hlt)
  · exact e
  · exact absurd (h.symm h1.1 hr) (h1.2 j hlt)
end

/-- a list with a choice for each of its elements -/
theorem choose_list {P : Nat → Nat → Prop} : ∀ (l : List Nat), (∀ i ∈ l, ∃ j, P i j) → ∃ g : Nat → Nat, ∀ i ∈ l, P i (g i) := by
  intro l
  induction l with
  | nil => intro _; exact ⟨id, fun i hi => by cases hi⟩
  | cons a l ih =>
    intro h
    obtain ⟨g, hg⟩ := ih (fun i hi => h i (List.mem_cons_of_mem _ hi))
    obtain ⟨j, hj⟩ := h a List.mem_cons_self
    refine ⟨fun i => if i = a then j else g i, fun i hi => ?_⟩
    by_cases e : i = a
    · subst e; simp only [if_true]; exact hj
    · simp only [e, if_false]
      rcases List.mem_cons.1 hi with e' | hi
      · exact absurd e' e
      · exact hg i hi

theorem cls_le {n m : Nat} {f g : Nat → Nat} (hf : PermF n f) (hg : PermF m g) (φ : Nat → Nat) (h1 : ∀ i, i < n → φ i < m) (h2 : ∀ i j, i < n → j < n → Rl g (φ i) (φ j) → Rl f i j) : cls f n ≤ cls g m := by
  obtain ⟨ρ, hρ⟩ := choose_list (P := fun i j => j ∈ heads g m ∧ Rl g j (φ i)) (heads f n) (fun i hi => exists_head hg _ (h1 i ((mem_heads hf).1 hi).1))
  have hn : ((heads f n).map ρ).Nodup := by
    refine nodup_map heads_nodup ?_
    intro i hi j hj e
    have a := hρ i hi
    have b := hρ j hj
    have hi' := ((mem_heads hf).1 hi).1
    have hj' := ((mem_heads hf).1 hj).1
    refine heads_inj hf hi hj (h2 i j hi' hj' ?_)
    refine Rl.trans (hg.symm ((mem_heads hg).1 a.1).1 a.2) ?_
    rw [e]
    exact b.2
  have := len_sub _ (heads g m) hn (fun x hx => by
    obtain ⟨i, hi, rfl⟩ := List.mem_map.1 hx
    exact (hρ i hi).1)
  simpa [cls] using this

/-- a map under which each step is a step or two keeps what is related -/
theorem rl_map {n : Nat} {f g : Nat → Nat} (hf : PermF n f) (φ : Nat → Nat) (h : ∀ i, i < n → Rl g (φ i) (φ (f i))) {i j : Nat} (hi : i < n) (hr : Rl f i j) : Rl g (φ i) (φ j) := by
  obtain ⟨k, rfl⟩ := hr
  induction k with
  | zero => exact Rl.refl g _
  | succ k ih => exact ih.trans (h _ (hf.itr_lt hi k))
theorem cls_eq {n m : Nat} {f g : Nat → Nat} (hf : PermF n f) (hg : PermF m g) (φ ψ : Nat → Nat) (a1 : ∀ i, i < n → φ i < m) (a2 : ∀ j, j < m → ψ j < n)
    (b1 : ∀ i, i < n → Rl g (φ i) (φ (f i))) (b2 : ∀ j, j < m → Rl f (ψ j) (ψ (g j))) (c1 : ∀ i, i < n → Rl f (ψ (φ i)) i) (c2 : ∀ j, j < m → Rl g (φ (ψ j)) j) : cls f n = cls g m := by
  refine Nat.le_antisymm (cls_le hf hg φ a1 (fun i j hi hj hr => ?_)) (cls_le hg hf ψ a2 (fun i j hi hj hr => ?_))
  · exact ((hf.symm (a2 _ (a1 i hi)) (c1 i hi)).trans (rl_map hg ψ b2 (a1 i hi) hr)).trans (c1 j hj)
  · exact ((hg.symm (a1 _ (a2 i hi)) (c2 i hi)).trans (rl_map hf φ b1 (a2 i hi) hr)).trans (c2 j hj)
end Go.Proofs.YteigjfdgijaifaaDoor

namespace Go.Proofs.YteigjfdgijaifaaDoor
set_option linter.unusedVariables false
open Go.RowKit

def gt (l : List Int) (i : Nat) : Int := l.getD i 0
theorem gt_get {l : List Int} {i : Nat} (h : i < l.length) : gt l i = l[i] := by simp [gt, List.getD_eq_getElem?_getD, h]
theorem gt_of {l : List Int} {i : Nat} {x : Int} (h : l[i]? = some x) : gt l i = x := by simp [gt, List.getD_eq_getElem?_getD, h]
theorem gt_of_eq {l m : List Int} {i j : Nat} (h : l[i]? = m[j]?) : gt l i = gt m j := by simp [gt, List.getD_eq_getElem?_getD, h]
/-- the column whose X stands in the row of the O of column i -/
def fC (X O : List Int) (i : Nat) : Nat := X.idxOf (gt O i)

theorem Pm.gt_inj {l : List Int} (h : Pm l) {i j : Nat} (hi : i < l.length) (hj : j < l.length) (e : gt l i = gt l j) : i = j := by
  rw [gt_get hi, gt_get hj] at e; exact h.inj hi hj e
theorem Pm.gt_rng {l : List Int} (h : Pm l) {i : Nat} (hi : i < l.length) : 0 ≤ gt l i ∧ gt l i < l.length := by rw [gt_get hi]; exact h.get hi
theorem Pm.gt_surj {l : List Int} (h : Pm l) {x : Int} (h0 : 0 ≤ x) (h1 : x < l.length) : ∃ k, k < l.length ∧ gt l k = x := by
  obtain ⟨k, hk, e⟩ := h.surj (j := x.toNat) (by omega)
  exact ⟨k, hk, by rw [gt_get hk, e]; omega⟩

section
variable {X O : List Int}
theorem Vd.oX (h : Vd X O) {i : Nat} (hi : i < X.length) : 0 ≤ gt O i ∧ gt O i < X.length := by have := h.pO.gt_rng (i := i) (by have := h.len; omega); have := h.len; omega
theorem fC_uniq (h : Vd X O) {i j : Nat} (hj : j < X.length) (e : gt X j = gt O i) : fC X O i = j := by
  unfold fC
  rw [← e, gt_get hj]
  exact h.pX.2.idxOf_getElem j hj
theorem fC_spec (h : Vd X O) {i : Nat} (hi : i < X.length) : fC X O i < X.length ∧ gt X (fC X O i) = gt O i := by
  obtain ⟨k, hk, e⟩ := h.pX.gt_surj (h.oX hi).1 (h.oX hi).2
  rw [fC_uniq h hk e]
  exact ⟨hk, e⟩
theorem fC_perm (h : Vd X O) : PermF X.length (fC X O) := by
  refine ⟨fun i hi => (fC_spec h hi).1, fun i j hi hj e => ?_⟩
  have h1 := (fC_spec h hi).2
  have h2 := (fC_spec h hj).2
  rw [e] at h1
  exact h.pO.gt_inj (by have := h.len; omega) (by have := h.len; omega) (h1.symm.trans h2)
theorem fC_ne (h : Vd X O) {i : Nat} (hi : i < X.length) : fC X O i ≠ i := by
  intro e
  have := (fC_spec h hi).2
  rw [e, gt_get hi, gt_get (by have := h.len; omega)] at this
  exact h.ne i hi _ this
end
/-- the number of components -/
def comp (X O : List Int) : Nat := cls (fC X O) X.length

theorem cyc_back {n i : Nat} (hi : i < n) : ((i + n - 1) % n + 1) % n = i := by
  rw [Nat.mod_add_mod, show i + n - 1 + 1 = i + n from by omega, Nat.add_mod_right, Nat.mod_eq_of_lt hi]
theorem cyc_fwd {n i : Nat} (hi : i < n) : ((i + 1) % n + n - 1) % n = i := by
  by_cases h : i + 1 = n
  · rw [h, Nat.mod_self, Nat.zero_add, Nat.mod_eq_of_lt (by omega)]; omega
  · rw [Nat.mod_eq_of_lt (show i + 1 < n by omega), show i + 1 + n - 1 = i + n from by omega, Nat.add_mod_right, Nat.mod_eq_of_lt hi]
theorem gt_rot (X : List Int) {j : Nat} (hj : j < X.length) : gt (rotL X) j = gt X ((j + 1) % X.length) := gt_of_eq (rotL_get X j hj)

theorem comp_rot {X O : List Int} (h : Vd X O) : comp (rotL X) (rotL O) = comp X O := by
  have h1 := rotL_vd h
  have hn := h.two
  have hl := h.len
  have hp : ∀ i, (i + X.length - 1) % X.length < X.length := fun i => Nat.mod_lt _ (by omega)
  have hq : ∀ i, (i + 1) % X.length < X.length := fun i => Nat.mod_lt _ (by omega)
  have gO : ∀ j, j < X.length → gt (rotL O) j = gt O ((j + 1) % X.length) := fun j hj => by rw [gt_rot O (by omega), hl]
  have hb := fC_perm h1
  rw [rotL_length] at hb
  unfold comp
  rw [rotL_length]
  refine (cls_eq (fC_perm h) hb (fun i => (i + X.length - 1) % X.length) (fun j => (j + 1) % X.length) (fun i _ => hp i) (fun j _ => hq j) (fun i hi => ?_) (fun j hj => ?_) (fun i hi => ?_) (fun j hj => ?_)).symm
  · refine ⟨1, ?_⟩
    have hf := fC_spec h hi
    refine fC_uniq h1 (by rw [rotL_length]; exact hp _) ?_
    simp only [itr]
    rw [gt_rot X (hp _), gO _ (hp _), cyc_back hf.1, cyc_back hi]
    exact hf.2
  · refine ⟨1, ?_⟩
    have hf := fC_spec h1 (i := j) (by rw [rotL_length]; exact hj)
    rw [rotL_length] at hf
    refine fC_uniq h (hq _) ?_
    simp only [itr]
    rw [← gt_rot X hf.1, ← gO _ hj]
    exact hf.2
  · show Rl _ (((i + X.length - 1) % X.length + 1) % X.length) i
    rw [cyc_back hi]
    exact Rl.refl _ _
  · show Rl _ (((j + 1) % X.length + X.length - 1) % X.length) j
    rw [cyc_fwd hj]
    exact Rl.refl _ _

def sw (a i : Nat) : Nat := if i = a then a + 1 else if i = a + 1 then a else i
theorem sw_sw (a i : Nat) : sw a (sw a i) = i := by unfold sw; repeat' split <;> try omega
theorem sw_lt {a n i : Nat} (ha : a + 1 < n) (hi : i < n) : sw a i < n := by unfold sw; repeat' split <;> try omega
theorem gt_swap (X : List Int) {a : Nat} (ha : a + 1 < X.length) (j : Nat) : gt (swapL X a) j = gt X (sw a j) := gt_of_eq (swapL_get X a j ha)
theorem comp_swap {X O : List Int} {a : Nat} (h : Vd X O) (ha : a + 1 < X.length) : comp (swapL X a) (swapL O a) = comp X O := by
  have h1 := swapL_vd h ha
  have hl := h.len
  have hb := fC_perm h1
  rw [swapL_length] at hb
  unfold comp
  rw [swapL_length]
  refine (cls_eq (fC_perm h) hb (sw a) (sw a) (fun i hi => sw_lt ha hi) (fun j hj => sw_lt ha hj) (fun i hi => ?_) (fun j hj => ?_) (fun i hi => ?_) (fun j hj => ?_)).symm
  · refine ⟨1, ?_⟩
    have hf := fC_spec h hi
    refine fC_uniq h1 (by rw [swapL_length]; exact sw_lt ha hf.1) ?_
    simp only [itr]
    rw [gt_swap X ha, gt_swap O (by omega), sw_sw, sw_sw]
    exact hf.2
  · refine ⟨1, ?_⟩
    have hf := fC_spec h1 (i := j) (by rw [swapL_length]; exact hj)
    rw [swapL_length] at hf
    refine fC_uniq h (sw_lt ha hf.1) ?_
    simp only [itr]
    rw [← gt_swap X ha, ← gt_swap O (a := a) (by omega)]
    exact hf.2
  · rw [sw_sw]; exact Rl.refl _ _
  · rw [sw_sw]; exact Rl.refl _ _

theorem gt_del (X : List Int) {a j : Nat} (r : Int) (ha : a < X.length) (hj : (if j < a then j else j + 1) < X.length) : gt (delL X a r) j = lowr r (gt X (if j < a then j else j + 1)) := by
  have := delL_get X a j r ha
  rw [List.getElem?_eq_getElem hj, Option.map_some] at this
  rw [gt_of this, gt_get hj]

def skq (a j : Nat) : Nat := if j < a then j else j + 1
def drp (a i : Nat) : Nat := if i < a then i else i - 1
theorem drp_skq (a j : Nat) : drp a (skq a j) = j := by
  unfold drp skq
  by_cases h : j < a
  · rw [if_pos h, if_pos h]
  · rw [if_neg h, if_neg (by omega)]; omega
theorem skq_drp {a i : Nat} (h : i ≠ a) : skq a (drp a i) = i := by
  unfold drp skq
  by_cases h1 : i < a
  · rw [if_pos h1, if_pos h1]
  · rw [if_neg h1, if_neg (by omega)]; omega
theorem skq_ne (a j : Nat) : skq a j ≠ a := by unfold skq; split <;> omega

theorem comp_del {X O : List Int} {a : Nat} (h : Vd X O) (ha : a < X.length) (hd : desOk X O a (gt X a) (gt O a) = true) :
    comp (delL X a (minG (gt X a) (gt O a))) (delL O a (minG (gt X a) (gt O a))) = comp X O := by
  have h1 : Vd (delL X a (minG (gt X a) (gt O a))) (delL O a (minG (gt X a) (gt O a))) := delL_vd h ha hd
  have hl := h.len
  have hao : a < O.length := by omega
  have hmm : maxG (gt X a) (gt O a) = minG (gt X a) (gt O a) + 1 := by
    simp only [desOk, Bool.and_eq_true, decide_eq_true_eq] at hd
    exact hd.1.2
  generalize hr : minG (gt X a) (gt O a) = r at *
  have hlen1 : (delL X a r).length = X.length - 1 := delL_length X a r ha
  have lx : lowr r (gt X a) = r := by unfold minG at hr; unfold maxG at hmm; unfold lowr; split at hr <;> split at hmm <;> split <;> omega
  have lo : lowr r (gt O a) = r := by unfold minG at hr; unfold maxG at hmm; unfold lowr; split at hr <;> split at hmm <;> split <;> omega
  have gX : ∀ i, i < X.length → i ≠ a → gt (delL X a r) (drp a i) = lowr r (gt X i) := fun i hi hne => by
    have e : (if drp a i < a then drp a i else drp a i + 1) = i := skq_drp hne
    rw [gt_del X r ha (by rw [e]; exact hi), e]
  have gO : ∀ i, i < X.length → i ≠ a → gt (delL O a r) (drp a i) = lowr r (gt O i) := fun i hi hne => by
    have e : (if drp a i < a then drp a i else drp a i + 1) = i := skq_drp hne
    rw [gt_del O r hao (by rw [e]; omega), e]
  have dlt : ∀ i, i < X.length → i ≠ a → drp a i < X.length - 1 := fun i hi hne => by unfold drp; split <;> omega
  have slt : ∀ j, j < X.length - 1 → skq a j < X.length := fun j hj => by unfold skq; split <;> omega
  have hfa := fC_spec h ha
  have hfne := fC_ne h ha
  have hpf := fC_perm h
  have hpg := fC_perm h1
  rw [hlen1] at hpg
  -- the three kinds of steps
  have s1 : ∀ i, i < X.length → i ≠ a → fC X O i ≠ a → fC (delL X a r) (delL O a r) (drp a i) = drp a (fC X O i) := fun i hi hne hne' => by
    have hf := fC_spec h hi
    refine fC_uniq h1 (by rw [hlen1]; exact dlt _ hf.1 hne') ?_
    rw [gX _ hf.1 hne', gO _ hi hne, hf.2]
  have s2 : ∀ i, i < X.length → i ≠ a → fC X O i = a → fC (delL X a r) (delL O a r) (drp a i) = drp a (fC X O a) := fun i hi hne e => by
    have hf := fC_spec h hi
    rw [e] at hf
    refine fC_uniq h1 (by rw [hlen1]; exact dlt _ hfa.1 hfne) ?_
    rw [gX _ hfa.1 hfne, gO _ hi hne, hfa.2, ← hf.2, lx, lo]
  unfold comp
  rw [hlen1]
  refine (cls_eq hpf hpg (fun i => if i = a then drp a (fC X O a) else drp a i) (skq a) (fun i hi => ?_) slt (fun i hi => ?_) (fun j hj => ?_) (fun i hi => ?_) (fun j hj => ?_)).symm
  · show (if i = a then drp a (fC X O a) else drp a i) < _
    split
    · exact dlt _ hfa.1 hfne
    · rename_i hne; exact dlt _ hi hne
  · show Rl _ (if i = a then drp a (fC X O a) else drp a i) (if fC X O i = a then drp a (fC X O a) else drp a (fC X O i))
    by_cases hne : i = a
    · subst hne
      rw [if_pos rfl, if_neg hfne]
      exact Rl.refl _ _
    · rw [if_neg hne]
      by_cases e : fC X O i = a
      · rw [if_pos e, ← s2 i hi hne e]; exact Rl.step _ _
      · rw [if_neg e, ← s1 i hi hne e]; exact Rl.step _ _
  · have hs := slt j hj
    have hne := skq_ne a j
    by_cases e : fC X O (skq a j) = a
    · have := s2 _ hs hne e
      rw [drp_skq] at this
      rw [this, skq_drp hfne]
      exact ⟨2, by show fC X O (fC X O (skq a j)) = _; rw [e]⟩
    · have := s1 _ hs hne e
      rw [drp_skq] at this
      rw [this, skq_drp e]
      exact Rl.step _ _
  · show Rl _ (skq a (if i = a then drp a (fC X O a) else drp a i)) i
    by_cases hne : i = a
    · subst hne
      rw [if_pos rfl, skq_drp hfne]
      exact hpf.symm ha (Rl.step _ _)
    · rw [if_neg hne, skq_drp hne]; exact Rl.refl _ _
  · show Rl _ (if skq a j = a then drp a (fC X O a) else drp a (skq a j)) j
    rw [if_neg (skq_ne a j), drp_skq]
    exact Rl.refl _ _

theorem gt_tr {l : List Int} (h : Pm l) {k : Nat} (hk : k < l.length) : gt (tr l) (gt l k).toNat = k := by
  rw [gt_get hk]; exact gt_of (tr_get h hk)
theorem comp_tr {X O : List Int} (h : Vd X O) : comp (tr X) (tr O) = comp X O := by
  have h1 := tr_vd h
  have hl := h.len
  have hpf := fC_perm h
  have hpg := fC_perm h1
  rw [tr_length] at hpg
  unfold comp
  rw [tr_length]
  have xr : ∀ i, i < X.length → (gt X i).toNat < X.length := fun i hi => by have := h.pX.gt_rng hi; omega
  have tt : ∀ j, j < X.length → (gt (tr X) j).toNat < X.length ∧ (gt X (gt (tr X) j).toNat).toNat = j := fun j hj => by
    obtain ⟨k, hk, e1, e2⟩ := tr_get' h.pX hj
    rw [gt_of e2, Int.toNat_natCast, gt_get hk, e1]
    exact ⟨hk, by omega⟩
  -- the X of row (X of f i) stands in the column of the O of that row
  have key : ∀ i, i < X.length → fC (tr X) (tr O) (gt X (fC X O i)).toNat = (gt X i).toNat := fun i hi => by
    have hf := fC_spec h hi
    refine fC_uniq h1 (by rw [tr_length]; exact xr i hi) ?_
    rw [gt_tr h.pX hi, hf.2, gt_tr h.pO (by omega)]
  refine (cls_eq hpf hpg (fun i => (gt X i).toNat) (fun j => (gt (tr X) j).toNat) xr (fun j hj => (tt j hj).1) (fun i hi => ?_) (fun j hj => ?_) (fun i hi => ?_) (fun j hj => ?_)).symm
  · have hf := fC_spec h hi
    refine hpg.symm (xr _ hf.1) ?_
    show Rl _ (gt X (fC X O i)).toNat (gt X i).toNat
    rw [← key i hi]
    exact Rl.step _ _
  · -- j is the row of the X of a column that is led to
    have hg := hpg.lt j hj
    have e := key (gt (tr X) (fC (tr X) (tr O) j)).toNat (tt _ hg).1
    rw [(tt _ hg).2] at e
    have hf := fC_spec h (tt _ hg).1
    have e2 : (gt X (fC X O (gt (tr X) (fC (tr X) (tr O) j)).toNat)).toNat = j := hpg.inj _ _ (xr _ hf.1) hj e
    refine hpf.symm (tt _ hg).1 ?_
    have e3 : (gt (tr X) j).toNat = fC X O (gt (tr X) (fC (tr X) (tr O) j)).toNat := by
      rw [← e2, gt_tr h.pX hf.1, Int.toNat_natCast, e2]
    show Rl _ (gt (tr X) (fC (tr X) (tr O) j)).toNat (gt (tr X) j).toNat
    rw [e3]
    exact Rl.step _ _
  · show Rl _ (gt (tr X) (gt X i).toNat).toNat i
    rw [gt_tr h.pX hi, Int.toNat_natCast]
    exact Rl.refl _ _
  · show Rl _ (gt X (gt (tr X) j).toNat).toNat j
    rw [(tt j hj).2]
    exact Rl.refl _ _
theorem comp_vw {X O : List Int} {rows : Bool} (h : Vd X O) : comp (vw rows X) (vw rows O) = comp X O := by
  cases rows
  · rfl
  · exact comp_tr h

theorem comp_apply3 {X O X1 O1 : List Int} {k a v : Int} {rows : Bool} (hk : k ≠ 4) (h : applyM X O k rows a v = (0, X1, O1)) : comp X1 O1 = comp X O := by
  obtain ⟨hv, hr, Y, P, hc, rfl, rfl⟩ := applyM_inv h
  have hw := vw_vd (rows := rows) hv
  have hvd : Vd Y P := by
    have := colsL_vd (a := a.toNat) (v := v.toNat) hw hr.1 (by rw [vw_length]; have := hr.2.1; omega) (by rw [vw_length]; have := hr.2.2; omega) (by rw [hc])
    rwa [hc] at this
  rw [comp_vw hvd, ← comp_vw (rows := rows) hv]
  have hl := vw_length rows X
  have ha := hr.2.1
  have h1 := hr.1
  generalize vw rows X = X' at *
  generalize vw rows O = O' at *
  unfold colsL at hc
  by_cases k1 : k = 1
  · rw [if_pos k1] at hc
    injection hc with _ hc
    injection hc with e1 e2
    subst e1 e2
    exact comp_rot hw
  rw [if_neg k1] at hc
  by_cases k2 : k = 2
  · rw [if_pos k2] at hc
    split at hc
    · injection hc with _ hc
      injection hc with e1 e2
      subst e1 e2
      subst k2
      refine comp_swap hw ?_
      simp [limAt] at ha
      omega
    · cases hc
  rw [if_neg k2] at hc
  by_cases k3 : k = 3
  · rw [if_pos k3] at hc
    split at hc
    · rename_i hd
      injection hc with _ hc
      injection hc with e1 e2
      subst e1 e2
      subst k3
      refine comp_del hw ?_ hd
      simp [limAt] at ha
      omega
    · cases hc
  · omega
/-- every move keeps the number of components -/
theorem comp_apply {X O X1 O1 : List Int} {k a v : Int} {rows : Bool} (h : applyM X O k rows a v = (0, X1, O1)) : comp X1 O1 = comp X O := by
  by_cases k4 : k = 4
  · subst k4
    exact (comp_apply3 (by decide) (undo_sta h)).symm
  · exact comp_apply3 k4 h
end Go.Proofs.YteigjfdgijaifaaDoor

namespace Go.Proofs.YteigjfdgijaifaaDoor
set_option linter.unusedVariables false
open Go.RowKit

/-- the order of lists -/
def cmpL : List Int → List Int → Int
  | [], [] => 0
  | [], _ :: _ => -1
  | _ :: _, [] => 1
  | x :: xs, y :: ys => if x < y then -1 else if y < x then 1 else cmpL xs ys
def cmpP (p q : List Int × List Int) : Int := if cmpL p.1 q.1 ≠ 0 then cmpL p.1 q.1 else cmpL p.2 q.2
theorem cmpL_anti : ∀ a b : List Int, cmpL b a = - cmpL a b := by
  intro a
  induction a with
  | nil => intro b; cases b <;> simp [cmpL]
  | cons x xs ih =>
    intro b
    cases b with
    | nil => simp [cmpL]
    | cons y ys =>
      simp only [cmpL]
      by_cases h1 : x < y
      · simp [h1, show ¬ y < x by omega]
      · by_cases h2 : y < x
        · simp [h1, h2]
        · simp only [h1, h2, if_false]; exact ih ys
theorem cmpL_zero : ∀ a b : List Int, cmpL a b = 0 → a = b := by
  intro a
  induction a with
  | nil => intro b h; cases b with
    | nil => rfl
    | cons y ys => simp [cmpL] at h
  | cons x xs ih =>
    intro b h
    cases b with
    | nil => simp [cmpL] at h
    | cons y ys =>
      simp only [cmpL] at h
      by_cases h1 : x < y
      · rw [if_pos h1] at h; omega
      · by_cases h2 : y < x
        · rw [if_neg h1, if_pos h2] at h; omega
        · rw [if_neg h1, if_neg h2] at h
          rw [ih ys h, show x = y from by omega]
theorem cmpL_trans : ∀ a b c : List Int, cmpL a b < 0 → cmpL b c < 0 → cmpL a c < 0 := by
  intro a
  induction a with
  | nil =>
    intro b c h1 h2
    cases c with
    | nil => cases b <;> simp [cmpL] at h1 h2
    | cons z zs => simp [cmpL]
  | cons x xs ih =>
    intro b c h1 h2
    cases b with
    | nil => simp [cmpL] at h1
    | cons y ys =>
      cases c with
      | nil => simp [cmpL] at h2
      | cons z zs =>
        simp only [cmpL] at h1 h2 ⊢
        by_cases a1 : x < z
        · rw [if_pos a1]; omega
        · by_cases b1 : x < y
          · by_cases c1 : y < z
            · omega
            · by_cases c2 : z < y
              · rw [if_neg c1, if_pos c2] at h2; omega
              · omega
          · by_cases b2 : y < x
            · rw [if_neg b1, if_pos b2] at h1; omega
            · rw [if_neg b1, if_neg b2] at h1
              by_cases c1 : y < z
              · omega
              · by_cases c2 : z < y
                · rw [if_neg c1, if_pos c2] at h2; omega
                · rw [if_neg c1, if_neg c2] at h2
                  rw [if_neg a1, if_neg (by omega)]
                  exact ih ys zs h1 h2
theorem cmpL_self (a : List Int) : cmpL a a = 0 := by have := cmpL_anti a a; omega
theorem cmpP_anti (a b : List Int × List Int) : cmpP b a = - cmpP a b := by
  unfold cmpP
  rw [cmpL_anti a.1 b.1, cmpL_anti a.2 b.2]
  by_cases h : cmpL a.1 b.1 = 0
  · rw [if_neg (by omega), if_neg (by omega)]
  · rw [if_pos (by omega), if_pos h]
theorem cmpP_zero (a b : List Int × List Int) (h : cmpP a b = 0) : a = b := by
  unfold cmpP at h
  by_cases h1 : cmpL a.1 b.1 = 0
  · rw [if_neg (by omega)] at h
    exact Prod.ext (cmpL_zero _ _ h1) (cmpL_zero _ _ h)
  · rw [if_pos h1] at h; exact absurd h h1
theorem cmpP_trans (a b c : List Int × List Int) (h1 : cmpP a b < 0) (h2 : cmpP b c < 0) : cmpP a c < 0 := by
  unfold cmpP at *
  by_cases x1 : cmpL a.1 b.1 = 0
  · rw [if_neg (by omega)] at h1
    rw [cmpL_zero _ _ x1]
    by_cases x2 : cmpL b.1 c.1 = 0
    · rw [if_neg (by omega)] at h2 ⊢
      exact cmpL_trans _ _ _ h1 h2
    · rw [if_pos x2] at h2 ⊢
      exact h2
  · rw [if_pos x1] at h1
    by_cases x2 : cmpL b.1 c.1 = 0
    · rw [← cmpL_zero _ _ x2, if_pos x1]; exact h1
    · rw [if_pos x2] at h2
      have := cmpL_trans _ _ _ h1 h2
      rw [if_pos (by omega)]
      exact this

/-- the translation that leads the X of column i to the first column and row -/
def cand (X O : List Int) (i : Nat) : List Int × List Int :=
  (trl ((X.length - i) % X.length) ((X.length - (gt X i).toNat) % X.length) X, trl ((X.length - i) % X.length) ((X.length - (gt X i).toNat) % X.length) O)
/-- p is the least of the first k translations -/
structure IsL (X O : List Int) (k : Nat) (p : List Int × List Int) : Prop where
  mem : ∃ i, i < k ∧ p = cand X O i
  le : ∀ i, i < k → 0 ≤ cmpP (cand X O i) p
theorem IsL.first (X O : List Int) : IsL X O 1 (cand X O 0) := ⟨⟨0, by omega, rfl⟩, fun i hi => by
  obtain rfl : i = 0 := by omega
  have := cmpP_anti (cand X O 0) (cand X O 0)
  omega⟩
theorem IsL.take {X O : List Int} {k : Nat} {p : List Int × List Int} (h : IsL X O k p) (hc : cmpP (cand X O k) p < 0) : IsL X O (k + 1) (cand X O k) := by
  refine ⟨⟨k, by omega, rfl⟩, fun i hi => ?_⟩
  by_cases e : i = k
  · subst e; have := cmpP_anti (cand X O i) (cand X O i); omega
  · have h1 := h.le i (by omega)
    have h2 := cmpP_trans (cand X O i) (cand X O k) p
    omega
theorem IsL.keep {X O : List Int} {k : Nat} {p : List Int × List Int} (h : IsL X O k p) (hc : ¬ cmpP (cand X O k) p < 0) : IsL X O (k + 1) p := by
  obtain ⟨i, hi, e⟩ := h.mem
  refine ⟨⟨i, by omega, e⟩, fun j hj => ?_⟩
  by_cases e : j = k
  · subst e; omega
  · exact h.le j (by omega)
theorem IsL.uniq {X O X1 O1 : List Int} {n m : Nat} {p q : List Int × List Int} (h : IsL X O n p) (h1 : IsL X1 O1 m q) (a : ∀ i, i < n → ∃ j, j < m ∧ cand X O i = cand X1 O1 j) (b : ∀ j, j < m → ∃ i, i < n ∧ cand X1 O1 j = cand X O i) : p = q := by
  obtain ⟨i, hi, rfl⟩ := h.mem
  obtain ⟨j, hj, rfl⟩ := h1.mem
  obtain ⟨j', hj', e1⟩ := a i hi
  obtain ⟨i', hi', e2⟩ := b j hj
  have l1 := h1.le j' hj'
  have l2 := h.le i' hi'
  rw [← e1] at l1
  rw [← e2] at l2
  have := cmpP_anti (cand X O i) (cand X1 O1 j)
  exact cmpP_zero _ _ (by omega)

theorem trl_length (c r : Nat) (l : List Int) : (trl c r l).length = l.length := reloc_length _ _ _ _
theorem mod_small {n i c : Nat} (hi : i < n) (hc : c < n) : (i + c) % n = if i + c < n then i + c else i + c - n := by
  by_cases h : i + c < n
  · rw [if_pos h, Nat.mod_eq_of_lt h]
  · rw [if_neg h, Nat.mod_eq_sub_mod (by omega), Nat.mod_eq_of_lt (by omega)]
theorem emod_small {n x r : Int} (h0 : 0 ≤ x) (hx : x < n) (r0 : 0 ≤ r) (hr : r < n) : (x + r) % n = if x + r < n then x + r else x + r - n := by
  by_cases h : x + r < n
  · rw [if_pos h, Int.emod_eq_of_lt (by omega) h]
  · rw [if_neg h, ← Int.sub_emod_right, Int.emod_eq_of_lt (by omega) (by omega)]
/-- what stands where -/
theorem gt_trl {l : List Int} {c r i : Nat} (hc : c < l.length) (hi : i < l.length) : gt (trl c r l) ((i + c) % l.length) = (gt l i + r) % l.length := by
  have hn : 0 < l.length := by omega
  refine gt_of ?_
  unfold trl
  rw [gt_get hi]
  refine (reloc_get (mv := mvTr l.length c r) hi (Nat.mod_lt _ hn) (by simp only [mvTr]; rw [Int.natCast_emod, Int.natCast_add]) (fun k' h' hne => ?_)).trans rfl
  simp only [mvTr]
  intro e
  have e' : (k' + c) % l.length = (i + c) % l.length := by rw [← Int.natCast_add, ← Int.natCast_emod] at e; omega
  rw [mod_small h' hc, mod_small hi hc] at e'
  split at e' <;> split at e' <;> omega
theorem trl_ext {l m : List Int} {c r : Nat} (hc : c < l.length) (hl : m.length = l.length) (h : ∀ i, i < l.length → gt m ((i + c) % l.length) = (gt l i + r) % l.length) : m = trl c r l := by
  apply List.ext_getElem
  · rw [hl, trl_length]
  · intro j h1 h2
    rw [hl] at h1
    have e : ((j + (l.length - c)) % l.length + c) % l.length = j := by
      rw [Nat.mod_add_mod, show j + (l.length - c) + c = j + l.length from by omega, Nat.add_mod_right, Nat.mod_eq_of_lt h1]
    have hi : (j + (l.length - c)) % l.length < l.length := Nat.mod_lt _ (by omega)
    have a := h _ hi
    have b := gt_trl (r := r) hc hi
    rw [e] at a b
    rw [← gt_get (l := m), ← gt_get (l := trl c r l), a, b]
theorem trl_trl {l : List Int} {c r c' r' : Nat} (hc : c < l.length) (hc' : c' < l.length) : trl c' r' (trl c r l) = trl ((c + c') % l.length) ((r + r') % l.length) l := by
  have hn : 0 < l.length := by omega
  refine trl_ext (Nat.mod_lt _ hn) (by rw [trl_length, trl_length]) (fun i hi => ?_)
  have h1 := gt_trl (r := r) hc hi
  have h2 := gt_trl (l := trl c r l) (c := c') (r := r') (i := (i + c) % l.length) (by rw [trl_length]; exact hc') (by rw [trl_length]; exact Nat.mod_lt _ hn)
  rw [trl_length, h1, Nat.mod_add_mod] at h2
  rw [Nat.add_mod_mod, ← Nat.add_assoc, h2, Int.natCast_emod, Int.add_emod_emod, Int.emod_add_emod]
  congr 1
  simp only [Int.natCast_add]
  omega
theorem trl_vd_gt {X : List Int} {c r i : Nat} (hp : Pm X) (hc : c < X.length) (hr : r < X.length) (hi : i < X.length) : gt (trl c r X) ((i + c) % X.length) = if gt X i + r < X.length then gt X i + r else gt X i + r - X.length := by
  have := hp.gt_rng hi
  rw [gt_trl hc hi, emod_small (by omega) (by omega) (by omega) (by omega)]
theorem cand_trl {X O : List Int} {c r i : Nat} (h : Vd X O) (hc : c < X.length) (hr : r < X.length) (hi : i < X.length) : cand (trl c r X) (trl c r O) ((i + c) % X.length) = cand X O i := by
  have hl := h.len
  have hg := h.pX.gt_rng hi
  have e := trl_vd_gt h.pX hc hr hi
  have hm := mod_small hi hc
  unfold cand
  rw [trl_length]
  have e1 : (X.length - i) % X.length = (c + (X.length - (i + c) % X.length) % X.length) % X.length := by
    rw [Nat.add_mod_mod, hm]
    split
    · rw [show c + (X.length - (i + c)) = X.length - i from by omega]
    · rw [show c + (X.length - (i + c - X.length)) = X.length + (X.length - i) from by omega, Nat.add_mod_left]
  have e2 : (X.length - (gt X i).toNat) % X.length = (r + (X.length - (gt (trl c r X) ((i + c) % X.length)).toNat) % X.length) % X.length := by
    rw [Nat.add_mod_mod, e]
    split
    · rw [show r + (X.length - (gt X i + r).toNat) = X.length - (gt X i).toNat from by omega]
    · rw [show r + (X.length - (gt X i + r - X.length).toNat) = X.length + (X.length - (gt X i).toNat) from by omega, Nat.add_mod_left]
  have hn : 0 < X.length := by omega
  rw [e1, e2]
  refine Prod.ext ?_ ?_
  · simp only
    rw [trl_trl hc (Nat.mod_lt _ hn)]
  · simp only
    rw [hl] at hc hn ⊢
    rw [trl_trl hc (Nat.mod_lt _ hn)]
theorem least_trl {X O : List Int} {c r : Nat} {p q : List Int × List Int} (h : Vd X O) (hc : c < X.length) (hr : r < X.length) (h1 : IsL X O X.length p) (h2 : IsL (trl c r X) (trl c r O) X.length q) : q = p := by
  refine h2.uniq h1 (fun j hj => ?_) (fun i hi => ?_)
  · refine ⟨(j + (X.length - c)) % X.length, Nat.mod_lt _ (by omega), ?_⟩
    rw [← cand_trl h hc hr (Nat.mod_lt _ (by omega)), Nat.mod_add_mod, show j + (X.length - c) + c = j + X.length from by omega, Nat.add_mod_right, Nat.mod_eq_of_lt hj]
  · exact ⟨(i + c) % X.length, Nat.mod_lt _ (by omega), (cand_trl h hc hr hi).symm⟩
/-- the translation of columns -/
theorem rotL_trl {X : List Int} (h : Pm X) (hn : 2 ≤ X.length) : rotL X = trl (X.length - 1) 0 X := by
  refine trl_ext (by omega) (rotL_length X) (fun i hi => ?_)
  have hg := h.gt_rng hi
  rw [gt_rot X (Nat.mod_lt _ (by omega)), Nat.mod_add_mod, show i + (X.length - 1) + 1 = i + X.length from by omega, Nat.add_mod_right, Nat.mod_eq_of_lt hi]
  simp only [Int.natCast_zero, Int.add_zero]
  rw [Int.emod_eq_of_lt hg.1 hg.2]
/-- the translation of rows -/
theorem rotR_trl {X : List Int} (h : Pm X) (hn : 2 ≤ X.length) : tr (rotL (tr X)) = trl 0 (X.length - 1) X := by
  have hpt := tr_pm h
  have hpr : Pm (rotL (tr X)) := by
    have hr := rotL_trl hpt (by rw [tr_length]; exact hn)
    refine Pm.mk_inj ?_ ?_
    · intro x hx
      rw [rotL_length]
      exact hpt.1 x (by unfold rotL at hx; rcases List.mem_append.1 hx with h | h; exact List.mem_of_mem_drop h; exact List.mem_of_mem_take h)
    · intro i j hi hj e
      rw [rotL_length] at hi hj
      rw [← gt_get, ← gt_get, gt_rot _ hi, gt_rot _ hj] at e
      have := hpt.gt_inj (Nat.mod_lt _ (by omega)) (Nat.mod_lt _ (by omega)) e
      exact mod_inj hi hj this
  refine trl_ext (by omega) (by rw [tr_length, rotL_length, tr_length]) (fun i hi => ?_)
  have hg := h.gt_rng hi
  have hl : (tr X).length = X.length := tr_length X
  -- the row j of the rotated one in which i stands
  have hj : ((gt X i).toNat + X.length - 1) % X.length < X.length := Nat.mod_lt _ (by omega)
  have e1 : gt (rotL (tr X)) (((gt X i).toNat + X.length - 1) % X.length) = i := by
    rw [gt_rot _ (by rw [hl]; exact hj), hl, cyc_back (by omega)]
    exact gt_tr h hi
  have e2 := gt_tr hpr (k := ((gt X i).toNat + X.length - 1) % X.length) (by rw [rotL_length, hl]; exact hj)
  rw [e1, Int.toNat_natCast] at e2
  rw [Nat.add_zero, Nat.mod_eq_of_lt hi, e2, Int.natCast_emod]
  congr 1
  omega
theorem shift_eq {X O : List Int} {rows : Bool} (h : Vd X O) : applyM X O 1 rows 0 0 = shiftM X O (if rows then 0 else -1) (if rows then -1 else 0) := by
  have h2 := h.two
  have hl := h.len
  have hm : ((-1 : Int) % (X.length : Int)).toNat = X.length - 1 := by
    have : (-1 : Int) % (X.length : Int) = X.length - 1 := by
      rw [← Int.add_emod_right, Int.emod_eq_of_lt (by omega) (by omega)]; omega
    omega
  have hr : inRange 1 0 0 X.length := ⟨by omega, by simp [limAt], by simp [limVar]⟩
  have ha : applyM X O 1 rows 0 0 = (0, vw rows (rotL (vw rows X)), vw rows (rotL (vw rows O))) := applyM_of h hr rfl
  rw [ha]
  unfold shiftM
  rw [if_neg (by rw [(validB_iff X O).2 h]; simp)]
  cases rows
  · simp only [vw, Bool.false_eq_true, if_false, hm, Int.zero_emod, Int.toNat_zero]
    rw [rotL_trl h.pX h2, rotL_trl h.pO (by omega), hl]
  · simp only [vw, if_true, hm, Int.zero_emod, Int.toNat_zero]
    rw [rotR_trl h.pX h2, rotR_trl h.pO (by omega), hl]
theorem sta_ok {X O : List Int} {a v : Int} (h : Vd X O) (h40 : X.length ≤ 8) (ha : 0 ≤ a ∧ a < X.length + 1) (hv : 0 ≤ v ∧ v < 2 * X.length) :
    ∃ X1 O1, applyM X O 4 false a v = (0, X1, O1) ∧ X1.length = X.length + 1 ∧ O1.length = X.length + 1 ∧ (gt X1 a.toNat - gt O1 a.toNat = 1 ∨ gt X1 a.toNat - gt O1 a.toNat = -1) := by
  have hl := h.len
  have hr : inRange 4 a v X.length := ⟨by omega, by simp [limAt]; omega, by simp [limVar]; omega⟩
  have e : colsL (vw false X) (vw false O) 4 a.toNat v.toNat = (0, addL X a.toNat (v.toNat / 2 : Nat) (true != decide (v.toNat % 2 = 0)) (if decide (v.toNat % 2 = 0) = true then (v.toNat / 2 : Nat) + 1 else (v.toNat / 2 : Nat)), addL O a.toNat (v.toNat / 2 : Nat) (false != decide (v.toNat % 2 = 0)) (if decide (v.toNat % 2 = 0) = true then (v.toNat / 2 : Nat) else (v.toNat / 2 : Nat) + 1)) := by
    have h1 : ¬ X.length = 40 := by omega
    simp [colsL, vw, h1]
  refine ⟨_, _, applyM_of h hr e, ?_, ?_, ?_⟩
  · rw [vw_length, addL_length _ _ _ _ _ (by omega)]
  · rw [vw_length, addL_length _ _ _ _ _ (by omega)]; omega
  · simp only [vw, Bool.false_eq_true, if_false, gt]
    rw [addL_self _ _ _ _ _ (by omega), addL_self _ _ _ _ _ (by omega)]
    split <;> omega
end Go.Proofs.YteigjfdgijaifaaDoor
