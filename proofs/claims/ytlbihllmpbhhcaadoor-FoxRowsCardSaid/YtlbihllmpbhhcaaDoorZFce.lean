/- Cycles of a permutation: how many there are, and maps that keep them. -/
/- append onto a slice of integers that the call itself owns: laws in the words of this seat. -/
/- unravelref01.Face: the cycle of a half-edge under the map of the faces. -/
import Derived.Test.YtlbihllmpbhhcaaDoorZBase
import Derived.Maps.AppendAt
import Derived.Deep.AppendLies
import Derived.RegionTactic
import Derived.OwnWalk
import Derived.Deep.RegionLaw
import Derived.Test.YtlbihllmpbhhcaaDoorZLbw
namespace Go.Proofs.YtlbihllmpbhhcaaDoor
set_option linter.unusedVariables false
open Go.RowKit

def itr (f : Nat → Nat) : Nat → Nat → Nat
  | 0, i => i
  | k + 1, i => f (itr f k i)
theorem itr_add (f : Nat → Nat) (a b i : Nat) : itr f (a + b) i = itr f a (itr f b i) := by
  induction a with
  | zero => rw [Nat.zero_add]; rfl
  | succ a ih => rw [Nat.succ_add, itr, itr, ih]

structure PermF (n : Nat) (f : Nat → Nat) : Prop where
  lt : ∀ i, i < n → f i < n
  inj : ∀ i j, i < n → j < n → f i = f j → i = j

def Rl (f : Nat → Nat) (i j : Nat) : Prop := ∃ k, itr f k i = j
theorem Rl.refl (f : Nat → Nat) (i : Nat) : Rl f i i := ⟨0, rfl⟩
theorem Rl.step (f : Nat → Nat) (i : Nat) : Rl f i (f i) := ⟨1, rfl⟩
theorem Rl.trans {f : Nat → Nat} {i j k : Nat} (h : Rl f i j) (h' : Rl f j k) : Rl f i k := by
  obtain ⟨a, ha⟩ := h
  obtain ⟨b, hb⟩ := h'
  exact ⟨b + a, by rw [itr_add, ha, hb]⟩

theorem len_sub : ∀ (l X : List Nat), l.Nodup → (∀ x ∈ l, x ∈ X) → l.length ≤ X.length := by
  intro l
  induction l with
  | nil => intro X _ _; simp
  | cons a l ih =>
    intro X hn hs
    have ha := hs a List.mem_cons_self
    have := ih (X.erase a) (List.nodup_cons.1 hn).2 (fun x hx => by
      rw [List.mem_erase_of_ne]
      · exact hs x (List.mem_cons_of_mem _ hx)
      · intro e; subst e; exact (List.nodup_cons.1 hn).1 hx)
    rw [List.length_erase_of_mem ha] at this
    have hpos : 0 < X.length := List.length_pos_of_mem ha
    simp only [List.length_cons]
    omega

theorem nodup_map {g : Nat → Nat} : ∀ {l : List Nat}, l.Nodup → (∀ a, a ∈ l → ∀ b, b ∈ l → g a = g b → a = b) → (l.map g).Nodup := by
  intro l
  induction l with
  | nil => intro _ _; simp
  | cons a l ih =>
    intro hn hi
    rw [List.map_cons, List.nodup_cons]
    refine ⟨fun hm => ?_, ih (List.nodup_cons.1 hn).2 (fun x hx y hy => hi x (List.mem_cons_of_mem _ hx) y (List.mem_cons_of_mem _ hy))⟩
    obtain ⟨b, hb, e⟩ := List.mem_map.1 hm
    have := hi b (List.mem_cons_of_mem _ hb) a List.mem_cons_self e
    subst this
    exact (List.nodup_cons.1 hn).1 hb
section
variable {n : Nat} {f : Nat → Nat}
theorem PermF.itr_lt (h : PermF n f) {i : Nat} (hi : i < n) (k : Nat) : itr f k i < n := by
  induction k with
  | zero => exact hi
  | succ k ih => exact h.lt _ ih
theorem PermF.itr_inj (h : PermF n f) {i j : Nat} (hi : i < n) (hj : j < n) : ∀ k, itr f k i = itr f k j → i = j := by
  intro k
  induction k with
  | zero => exact id
  | succ k ih => intro e; exact ih (h.inj _ _ (h.itr_lt hi k) (h.itr_lt hj k) e)
/-- as long as i does not come back, its images are different numbers -/
theorem PermF.apart (h : PermF n f) {i : Nat} (hi : i < n) {m : Nat} (hm : ∀ k, 0 < k → k < m → itr f k i ≠ i) : m ≤ n := by
  have hn : ((List.range m).map (fun k => itr f k i)).Nodup := by
    refine nodup_map List.nodup_range ?_
    intro a ha b hb e
    rw [List.mem_range] at ha hb
    rcases Nat.lt_trichotomy a b with hab | hab | hab
    · exfalso
      have : itr f (b - a) i = i := by
        apply h.itr_inj (h.itr_lt hi _) hi a
        rw [← itr_add, show a + (b - a) = b from by omega]; exact e.symm
      exact hm (b - a) (by omega) (by omega) this
    · exact hab
    · exfalso
      have : itr f (a - b) i = i := by
        apply h.itr_inj (h.itr_lt hi _) hi b
        rw [← itr_add, show b + (a - b) = a from by omega]; exact e
      exact hm (a - b) (by omega) (by omega) this
  have := len_sub _ (List.range n) hn (fun x hx => by
    obtain ⟨k, _, rfl⟩ := List.mem_map.1 hx
    exact List.mem_range.2 (h.itr_lt hi k))
  simpa using this
theorem PermF.back (h : PermF n f) {i : Nat} (hi : i < n) : ∃ k, 0 < k ∧ k ≤ n ∧ itr f k i = i := by
  by_cases hb : ∃ k, 0 < k ∧ k ≤ n ∧ itr f k i = i
  · exact hb
  · have := h.apart hi (m := n + 1) (fun k h1 h2 e => hb ⟨k, h1, by omega, e⟩)
    omega
theorem PermF.symm (h : PermF n f) {i j : Nat} (hi : i < n) (hr : Rl f i j) : Rl f j i := by
  obtain ⟨k, rfl⟩ := hr
  induction k with
  | zero => exact Rl.refl f i
  | succ k ih =>
    refine Rl.trans ?_ ih
    obtain ⟨m, hm, _, e⟩ := h.back (h.itr_lt hi k)
    refine ⟨m - 1, ?_⟩
    show itr f (m - 1) (itr f (k + 1) i) = itr f k i
    have : itr f (m - 1) (itr f 1 (itr f k i)) = itr f k i := by rw [← itr_add, show m - 1 + 1 = m from by omega]; exact e
    exact this
theorem Rl.lt (h : PermF n f) {i j : Nat} (hi : i < n) (hr : Rl f i j) : j < n := by obtain ⟨k, rfl⟩ := hr; exact h.itr_lt hi k

/-- related, to be computed -/
def rB (f : Nat → Nat) (n j i : Nat) : Bool := (List.range (n + 1)).any fun k => itr f k j == i
theorem rB_iff (h : PermF n f) {j i : Nat} (hj : j < n) : rB f n j i = true ↔ Rl f j i := by
  simp only [rB, List.any_eq_true, List.mem_range, beq_iff_eq]
  constructor
  · rintro ⟨k, _, e⟩; exact ⟨k, e⟩
  · rintro ⟨k, e⟩
    induction k using Nat.strongRecOn with
    | _ k ih =>
      by_cases hk : k < n + 1
      · exact ⟨k, hk, e⟩
      · obtain ⟨m, hm, hmn, eb⟩ := h.back hj
        refine ih (k - m) (by omega) ?_
        rw [← e, show k = (k - m) + m from by omega, itr_add, eb]
        congr 1
        omega
/-- the numbers below n that are the least ones of their cycles -/
def heads (f : Nat → Nat) (n : Nat) : List Nat := (List.range n).filter fun i => (List.range i).all fun j => !rB f n j i
def cls (f : Nat → Nat) (n : Nat) : Nat := (heads f n).length
theorem mem_heads (h : PermF n f) {i : Nat} : i ∈ heads f n ↔ i < n ∧ ∀ j, j < i → ¬ Rl f j i := by
  simp only [heads, List.mem_filter, List.mem_range, List.all_eq_true, Bool.not_eq_true']
  constructor
  · rintro ⟨hi, hj⟩
    refine ⟨hi, fun j hlt hr => ?_⟩
    have := hj j hlt
    rw [(rB_iff h (by omega)).2 hr] at this
    cases this
  · rintro ⟨hi, hj⟩
    refine ⟨hi, fun j hlt => ?_⟩
    cases hr : rB f n j i with
    | false => rfl
    | true => exact absurd ((rB_iff h (by omega)).1 hr) (hj j hlt)
theorem heads_nodup : (heads f n).Nodup := List.nodup_range.filter _
theorem exists_head (h : PermF n f) : ∀ i, i < n → ∃ j, j ∈ heads f n ∧ Rl f j i := by
  intro i
  induction i using Nat.strongRecOn with
  | _ i ih =>
    intro hi
    by_cases hh : ∃ j, j < i ∧ Rl f j i
    · obtain ⟨j, hj, hr⟩ := hh
      obtain ⟨k, hk, hr'⟩ := ih j hj (by omega)
      exact ⟨k, hk, hr'.trans hr⟩
    · exact ⟨i, (mem_heads h).2 ⟨hi, fun j hj hr => hh ⟨j, hj, hr⟩⟩, Rl.refl f i⟩
theorem heads_inj (h : PermF n f) {i j : Nat} (hi : i ∈ heads f n) (hj : j ∈ heads f n) (hr : Rl f i j) : i = j := by
  have h1 := (mem_heads h).1 hi
  have h2 := (mem_heads h).1 hj
  rcases Nat.lt_trichotomy i j with hlt | e | hlt
  · exact absurd hr (h2.2 i hlt)
  · exact e
  · exact absurd (h.symm h1.1 hr) (h1.2 j hlt)
end

/-- a list with a choice for each of its elements -/
theorem choose_list {P : Nat → Nat → Prop} : ∀ (l : List Nat), (∀ i ∈ l, ∃ j, P i j) → ∃ g : Nat → Nat, ∀ i ∈ l, P i (g i) := by
  intro l
  induction l with
  | nil => intro _; exact ⟨id, fun i hi => by cases hi⟩
  | cons a l ih =>
    intro h
    obtain ⟨g, hg⟩ := ih (fun i hi => h i (List.mem_cons_of_mem _ hi))
    obtain ⟨j, hj⟩ := h a List.mem_cons_self
    refine ⟨fun i => if i = a then j else g i, fun i hi => ?_⟩
    by_cases e : i = a
    · subst e; simp only [if_true]; exact hj
    · simp only [e, if_false]
      rcases List.mem_cons.1 hi with e' | hi
      · exact absurd e' e
      · exact hg i hi

theorem cls_le {n m : Nat} {f g : Nat → Nat} (hf : PermF n f) (hg : PermF m g) (φ : Nat → Nat) (h1 : ∀ i, i < n → φ i < m) (h2 : ∀ i j, i < n → j < n → Rl g (φ i) (φ j) → Rl f i j) : cls f n ≤ cls g m := by
  obtain ⟨ρ, hρ⟩ := choose_list (P := fun i j => j ∈ heads g m ∧ Rl g j (φ i)) (heads f n) (fun i hi => exists_head hg _ (h1 i ((mem_heads hf).1 hi).1))
  have hn : ((heads f n).map ρ).Nodup := by
    refine nodup_map heads_nodup ?_
    intro i hi j hj e
    have a := hρ i hi
    have b := hρ j hj
    have hi' := ((mem_heads hf).1 hi).1
    have hj' := ((mem_heads hf).1 hj).1
    refine heads_inj hf hi hj (h2 i j hi' hj' ?_)
    refine Rl.trans (hg.symm ((mem_heads hg).1 a.1).1 a.2) ?_
    rw [e]
    exact b.2
  have := len_sub _ (heads g m) hn (fun x hx => by
    obtain ⟨i, hi, rfl⟩ := List.mem_map.1 hx
    exact (hρ i hi).1)
  simpa [cls] using this

/-- a map under which each step is a step or two keeps what is related -/
theorem rl_map {n : Nat} {f g : Nat → Nat} (hf : PermF n f) (φ : Nat → Nat) (h : ∀ i, i < n → Rl g (φ i) (φ (f i))) {i j : Nat} (hi : i < n) (hr : Rl f i j) : Rl g (φ i) (φ j) := by
  obtain ⟨k, rfl⟩ := hr
  induction k with
  | zero => exact Rl.refl g _
  | succ k ih => exact ih.trans (h _ (hf.itr_lt hi k))
theorem cls_eq {n m : Nat} {f g : Nat → Nat} (hf : PermF n f) (hg : PermF m g) (φ ψ : Nat → Nat) (a1 : ∀ i, i < n → φ i < m) (a2 : ∀ j, j < m → ψ j < n)
    (b1 : ∀ i, i < n → Rl g (φ i) (φ (f i))) (b2 : ∀ j, j < m → Rl f (ψ j) (ψ (g j))) (c1 : ∀ i, i < n → Rl f (ψ (φ i)) i) (c2 : ∀ j, j < m → Rl g (φ (ψ j)) j) : cls f n = cls g m := by
  refine Nat.le_antisymm (cls_le hf hg φ a1 (fun i j hi hj hr => ?_)) (cls_le hg hf ψ a2 (fun i j hi hj hr => ?_))
  · exact ((hf.symm (a2 _ (a1 i hi)) (c1 i hi)).trans (rl_map hg ψ b2 (a1 i hi) hr)).trans (c1 j hj)
  · exact ((hg.symm (a1 _ (a2 i hi)) (c2 i hi)).trans (rl_map hf φ b1 (a2 i hi) hr)).trans (c2 j hj)
end Go.Proofs.YtlbihllmpbhhcaaDoor

namespace Go.Proofs.YtlbihllmpbhhcaaDoor
set_option linter.unusedVariables false
open Go.RowKit

/-- v is a slice of the call's own, from block base on, that holds the integers xs -/
def OwnI (e : TypeId) (base : Nat) (w : World) (v : Value) (xs : List Int) : Prop := w.ownsRow base e 1 v xs.length (xs.map (Value.int .i64))

section
variable {e : TypeId} {base : Nat} {w w' : World} {v : Value} {xs : List Int}
theorem OwnI.nil (e : TypeId) (base : Nat) (w : World) : OwnI e base w (.slice none 0 0) [] := ⟨rfl, .inl ⟨rfl, rfl⟩⟩
theorem OwnI.form (h : OwnI e base w v xs) : ∃ A c, v = .slice A xs.length c := by
  rcases h.2 with ⟨rfl, h0⟩ | ⟨g, cap, cur, rfl, _⟩
  · exact ⟨none, 0, by rw [h0]⟩
  · exact ⟨_, _, rfl⟩
theorem OwnI.block (h : OwnI e base w v xs) : ∀ k, v.ownBlock = some k → base ≤ k := by
  intro k hk
  rcases h.2 with ⟨rfl, h0⟩ | ⟨g, cap, cur, rfl, hg, _⟩
  · simp [Value.ownBlock] at hk
  · simp [Value.ownBlock] at hk; omega
theorem OwnI.ints (h : OwnI e base w v xs) : Ints w v xs := by
  rcases h.2 with ⟨rfl, h0⟩ | ⟨g, cap, cur, rfl, hg, hh, hn, _, hc, ht⟩
  · have : xs = [] := List.eq_nil_of_length_eq_zero h0
    subst this
    exact Ints.nil w
  · refine ⟨_, _, rfl, hn, fun k x hk => ⟨g, 0, rfl, ?_⟩⟩
    rw [cell_of_row w g _ cur e (0, 0) hh, Nat.zero_add]
    have hk' : k < xs.length := (List.getElem?_eq_some_iff.1 hk).1
    have h1 : (cur.toList.take (xs.length * 1))[k]? = some (.int .i64 x) := by rw [ht, List.getElem?_map, hk]; rfl
    rw [List.getElem?_take, if_pos (by omega)] at h1
    simpa using h1
theorem OwnI.below {B : Nat} (h : OwnI e base w v xs) (hb : Below B w w') (hB : w.heap.size ≤ B) : OwnI e base w' v xs := by
  refine ⟨h.1, ?_⟩
  rcases h.2 with h0 | ⟨g, cap, cur, e1, hg, hh, r⟩
  · exact .inl h0
  · refine .inr ⟨g, cap, cur, e1, hg, ?_, r⟩
    have hlt : g < w.heap.size := by
      rcases Nat.lt_or_ge g w.heap.size with hlt | hge
      · exact hlt
      · rw [Array.getElem?_eq_none hge] at hh; cases hh
    rw [hb.block g (by omega)]; exact hh
theorem OwnI.alloc (h : OwnI e base w v xs) (o : Obj) : OwnI e base (w.alloc o) v xs := h.below ((Below.refl _ _).alloc (Nat.le_refl _) o) (Nat.le_refl _)
theorem OwnI.drew (h : OwnI e base w v xs) : OwnI e base w.drew v xs := h
theorem OwnI.drewN (h : OwnI e base w v xs) (n : Nat) : OwnI e base (w.drewN n) v xs := h

/-- the run of append(v, u...) -/
theorem run_appI {P : Program} {t ty : TypeId} {i : TypeInfo} (ht : P.underlying t = some (.slice e)) (hi : P.info? e = some i) (hz : i.zero = some (.int .i64 0)) (hs : i.size = 1) (hby : i.bytes = 8)
    (h : OwnI e base w v xs) {u : Value} {ys : List Int} (hu : Ints w u ys) (hlen : xs.length + ys.length ≤ 1000000000) (hbase : base ≤ w.heap.size) :
    ∃ v' w', (Builtin.append_ #[t, t] ty #[v, u]).run P w = .ok v' w' ∧ OwnI e base w' v' (xs ++ ys) ∧ Below base w w' ∧ (∀ k, k < w.heap.size → v.ownBlock ≠ some k → w'.heap[k]? = w.heap[k]?) := by
  obtain ⟨A, c, rfl, hc, hx⟩ := hu
  cases A with
  | none =>
    have hy : ys = [] := by
      cases ys with
      | nil => rfl
      | cons y ys => obtain ⟨b, o, hA, _⟩ := hx 0 y rfl; cases hA
    subst hy
    refine ⟨v, w, ?_, by simpa using h, Below.refl _ _, fun _ _ _ => rfl⟩
    rcases h.2 with ⟨rfl, h0⟩ | ⟨g, cap, cur, rfl, _, _, hnc, _⟩
    · simp [Builtin.append_, run_underlying ht, sizeOf, typeInfo, hi, Builtin.lenOf, Builtin.firstCells]
    · simp [Builtin.append_, run_underlying ht, sizeOf, typeInfo, hi, Builtin.lenOf, Builtin.firstCells, hnc, storeCells]
  | some ad =>
    have hcells : ∀ j q, (ys.map (Value.int .i64))[j]? = some q → w.cell? (ad.add j) = some q := by
      intro j q hq
      rw [List.getElem?_map] at hq
      cases hy : ys[j]? with
      | none => rw [hy] at hq; cases hq
      | some y =>
        rw [hy] at hq
        injection hq with hq
        obtain ⟨b, o, hA, hcell⟩ := hx j y hy
        injection hA with hA
        subst hA
        rw [← hq]
        have : (⟨b, o, none⟩ : Addr).add j = ⟨b, o + j, none⟩ := by unfold Addr.add; split <;> simp_all
        rw [this]; exact hcell
    obtain ⟨v', w', hrun, h2, h3, _, _⟩ := run_append_own_at (P := P) w base t ty e i (.int .i64 0) 1 8 ht hi hz hs hby rfl (by decide) v xs.length (xs.map (Value.int .i64)) h ad ys.length c (ys.map (Value.int .i64)) (by simp) hcells
      (by intro q hq; obtain ⟨y, _, rfl⟩ := List.mem_map.1 hq; rfl) (by unfold maxLen; omega) (by omega) hbase
    refine ⟨v', w', hrun, ?_, (Below.refl _ _).grown h3 hbase h.block, fun k hk hne => h3.block k hk (fun e => hne e.symm)⟩
    unfold OwnI
    rw [List.length_append, List.map_append]
    exact h2
end

section
variable {P : Program} {w : World} {e : TypeId} {base : Nat} {v : Value} {xs : List Int}
theorem wp_appI {o : Oper} {a : Act} {K : Act → World → Prop} {Q : Exit → Act → World → Prop} (s x : Operand) (t : TypeId) (ho : o.op = .call { callee := .builtin .append, args := #[s, x], argTypes := #[t, t] })
    {i : TypeInfo} (ht : P.underlying t = some (.slice e)) (hi : P.info? e = some i) (hz : i.zero = some (.int .i64 0)) (hs : i.size = 1) (hby : i.bytes = 8)
    (hv : a.eval s = v) (h : OwnI e base w v xs) {u : Value} {ys : List Int} (hx : a.eval x = u) (hu : Ints w u ys) (hlen : xs.length + ys.length ≤ 1000000000) (hbase : base ≤ w.heap.size)
    (hK : ∀ v' w', OwnI e base w' v' (xs ++ ys) → Below base w w' → (∀ k, k < w.heap.size → v.ownBlock ≠ some k → w'.heap[k]? = w.heap[k]?) → K (a.put o.dst v') w') : o.wp P a w K Q := by
  obtain ⟨v', w', hrun, h1, h2, h3⟩ := run_appI (P := P) (ty := o.type) ht hi hz hs hby h hu hlen hbase
  unfold Oper.wp execOp
  simp only [ho, resolve, invoke, builtin, Sem.run_bind, Sem.run_pure, Result.andThen_ok, List.map_toArray, List.map_cons, List.map_nil, hv, hx, hrun]
  exact hK v' w' h1 h2 h3
/-- in a plain region, behind 'at_builtin' -/
theorem wpList_appI {ops : Array Oper} {rest : List Oper} {o : Oper} {a : Act} {Q : Exit → Act → World → Prop} (hgd : o.guard = none) (s x : Operand) (t : TypeId) (ho : o.op = .call { callee := .builtin .append, args := #[s, x], argTypes := #[t, t] })
    {i : TypeInfo} (ht : P.underlying t = some (.slice e)) (hi : P.info? e = some i) (hz : i.zero = some (.int .i64 0)) (hs : i.size = 1) (hby : i.bytes = 8)
    (hv : a.eval s = v) (h : OwnI e base w v xs) {u : Value} {ys : List Int} (hx : a.eval x = u) (hu : Ints w u ys) (hlen : xs.length + ys.length ≤ 1000000000) (hbase : base ≤ w.heap.size)
    (hK : ∀ v' w', OwnI e base w' v' (xs ++ ys) → Below base w w' → (∀ k, k < w.heap.size → v.ownBlock ≠ some k → w'.heap[k]? = w.heap[k]?) → wpList P ops Q rest (a.put o.dst v') w') : wpList P ops Q (o :: rest) a w :=
  wpList_plain hgd fun _ hk => wp_appI s x t ho ht hi hz hs hby hv h hx hu hlen hbase fun v' w' h1 h2 h3 => hk _ _ (hK v' w' h1 h2 h3)
/-- in a region that draws its order -/
theorem step_appI {ops : Array Oper} {o : Oper} {a : Act} {K : Act → World → Prop} {Q : Exit → Act → World → Prop} {E : Prop} (hgd : o.guard = none) (s x : Operand) (t : TypeId) (ho : o.op = .call { callee := .builtin .append, args := #[s, x], argTypes := #[t, t] })
    {i : TypeInfo} (ht : P.underlying t = some (.slice e)) (hi : P.info? e = some i) (hz : i.zero = some (.int .i64 0)) (hs : i.size = 1) (hby : i.bytes = 8)
    (hv : a.eval s = v) (h : OwnI e base w v xs) {u : Value} {ys : List Int} (hx : a.eval x = u) (hu : Ints w u ys) (hlen : xs.length + ys.length ≤ 1000000000) (hbase : base ≤ w.heap.size)
    (hK : ∀ v' w', OwnI e base w' v' (xs ++ ys) → Below base w w' → (∀ k, k < w.heap.size → v.ownBlock ≠ some k → w'.heap[k]? = w.heap[k]?) → K (a.put o.dst v') w') : if Region.wanted o (yielded ops a.tmps) = true then Oper.wp P o a w K Q else E := by
  have hw : Region.wanted o (yielded ops a.tmps) = true := by simp [Region.wanted, hgd]
  rw [if_pos hw]
  exact wp_appI s x t ho ht hi hz hs hby hv h hx hu hlen hbase hK
end

theorem OwnI.emptyAt {w : World} {e : TypeId} {base g : Nat} (hb : base ≤ g) (hg : w.heap[g]? = some (.cells #[] e (0, 0))) : OwnI e base w (.slice (some ⟨g, 0, none⟩) 0 0) [] :=
  ⟨rfl, .inr ⟨g, 0, #[], rfl, hb, hg, Nat.le_refl _, by unfold maxLen; omega, rfl, rfl⟩⟩

/-- a part of a slice reads as the part of the list -/
theorem Ints.sub {w : World} {A : Option Addr} {n c lo hi : Nat} {xs : List Int} (h : Ints w (.slice A n c) xs) (h1 : lo ≤ hi) (h2 : hi ≤ xs.length) (c' : Nat) (hc : hi - lo ≤ c') (A' : Option Addr) (hA : lo < hi → A' = A.map (·.add lo)) :
    Ints w (.slice A' (hi - lo) c') ((xs.take hi).drop lo) := by
  obtain ⟨A0, c0, hv, hcap, hx⟩ := h
  injection hv with e1 e2 e3
  subst e1
  have hlen : ((xs.take hi).drop lo).length = hi - lo := by simp; omega
  refine ⟨A', c', by rw [hlen], by omega, fun k x hk => ?_⟩
  have hk' : k < hi - lo := by have := (List.getElem?_eq_some_iff.1 hk).1; omega
  rw [List.getElem?_drop, List.getElem?_take, if_pos (by omega)] at hk
  obtain ⟨b, o, hA0, hcell⟩ := hx (lo + k) x hk
  subst hA0
  refine ⟨b, o + lo, ?_, by rw [Nat.add_assoc]; exact hcell⟩
  rw [hA (by omega)]
  simp only [Option.map_some, Addr.add]
  split <;> simp_all
end Go.Proofs.YtlbihllmpbhhcaaDoor

namespace Go.Proofs.YtlbihllmpbhhcaaDoor
open Go.RowKit
set_option linter.unusedVariables false

theorem Ints.one (w : World) (t : TypeId) (x : Int) : Ints (w.alloc (.cells #[.int .i64 x] t)) (.slice (some ⟨w.heap.size, 0, none⟩) 1 1) [x] := Ints.of_arr (xs := [x]) (Arr.new w t [.int .i64 x])
theorem OwnI.one (w : World) (e : TypeId) (x : Int) : OwnI e w.heap.size (w.alloc (.cells #[.int .i64 x] e)) (.slice (some ⟨w.heap.size, 0, none⟩) 1 1) [x] :=
  ⟨rfl, .inr ⟨w.heap.size, 1, #[.int .i64 x], rfl, Nat.le_refl _, heap_alloc_new w _, Nat.le_refl _, by unfold maxLen; omega, rfl, rfl⟩⟩

/-- the map of the faces -/
def phi (M : List Int) (h : Nat) : Nat := turnN (mt M h) 3
/-- the first k elements of a cycle -/
def cyL (f : Nat → Nat) (h k : Nat) : List Int := (List.range k).map fun i => ((itr f i h : Nat) : Int)
theorem cyL_length (f : Nat → Nat) (h k : Nat) : (cyL f h k).length = k := by simp [cyL]
theorem cyL_succ (f : Nat → Nat) (h k : Nat) : cyL f h (k + 1) = cyL f h k ++ [((itr f k h : Nat) : Int)] := by simp [cyL, List.range_succ]

end Go.Proofs.YtlbihllmpbhhcaaDoor
