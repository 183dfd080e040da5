/- append onto a slice of one-cell values that the call itself owns. -/
/- unravelref01.Faces: the first half-edges of the faces. -/
/- The arcs, as the reference finds them: plain. -/
import Derived.Test.YtlbihllmpbhhcaaDoorZFce
import Derived.Test.YtlbihllmpbhhcaaDoorZLbw
namespace Go.Proofs.YtlbihllmpbhhcaaDoor
set_option linter.unusedVariables false
open Go.RowKit

/-- The value v is a slice that reads as the values vs in the world w. -/
def Vals (w : World) (v : Value) (vs : List Value) : Prop :=
  ∃ A c, v = .slice A vs.length c ∧ vs.length ≤ c ∧ ∀ k x, vs[k]? = some x → ∃ b o, A = some ⟨b, o, none⟩ ∧ w.cell? ⟨b, o + k, none⟩ = some x

section
variable {w w' : World} {v : Value} {vs : List Value}
theorem Vals.keep (h : Vals w v vs) (hk : ∀ b o, b < w.heap.size → w'.cell? ⟨b, o, none⟩ = w.cell? ⟨b, o, none⟩) : Vals w' v vs := by
  obtain ⟨A, c, hv, hc, hx⟩ := h
  refine ⟨A, c, hv, hc, fun k x hkx => ?_⟩
  obtain ⟨b, o, hA, hcell⟩ := hx k x hkx
  exact ⟨b, o, hA, (hk b (o + k) (block_lt_of_cell hcell)).trans hcell⟩
theorem Vals.below (h : Vals w v vs) (hb : Below w.heap.size w w') : Vals w' v vs := h.keep fun _ _ hlt => hb.cell hlt
theorem Vals.alloc (h : Vals w v vs) (o : Obj) : Vals (w.alloc o) v vs := h.below ((Below.refl _ _).alloc (Nat.le_refl _) o)
theorem Vals.at_ {A : Option Addr} {n c k : Nat} (h : Vals w (.slice A n c) vs) (hk : k < vs.length) :
    ∃ b o, A = some ⟨b, o, none⟩ ∧ b < w.heap.size ∧ w.cell? ⟨b, o + k, none⟩ = some vs[k] := by
  obtain ⟨A', c', hv, hc, hx⟩ := h
  injection hv with h1 h2 h3
  subst h1
  obtain ⟨b, o, hA, hcell⟩ := hx k vs[k] (List.getElem?_eq_getElem hk)
  exact ⟨b, o, hA, block_lt_of_cell hcell, hcell⟩
theorem Vals.of_arr {b : Nat} {t : TypeId} (h : Arr w b t vs) : Vals w (.slice (some ⟨b, 0, none⟩) vs.length vs.length) vs := by
  refine ⟨_, _, rfl, Nat.le_refl _, fun k x hk => ⟨b, 0, rfl, ?_⟩⟩
  rw [Nat.zero_add, h.cell]; exact hk
theorem Vals.nil (w : World) : Vals w (.slice none 0 0) [] := ⟨none, 0, rfl, Nat.le_refl _, fun k x h => by simp at h⟩
theorem Vals.one (w : World) (t : TypeId) (x : Value) : Vals (w.alloc (.cells #[x] t)) (.slice (some ⟨w.heap.size, 0, none⟩) 1 1) [x] := Vals.of_arr (vs := [x]) (Arr.new w t [x])
end

/-- v is a slice of the call's own, from block base on, that holds the values vs -/
def OwnV (e : TypeId) (base : Nat) (w : World) (v : Value) (vs : List Value) : Prop := w.ownsRow base e 1 v vs.length vs

section
variable {e : TypeId} {base : Nat} {w w' : World} {v : Value} {vs : List Value}
theorem OwnV.nil (e : TypeId) (base : Nat) (w : World) : OwnV e base w (.slice none 0 0) [] := ⟨rfl, .inl ⟨rfl, rfl⟩⟩
theorem OwnV.form (h : OwnV e base w v vs) : ∃ A c, v = .slice A vs.length c := by
  rcases h.2 with ⟨rfl, h0⟩ | ⟨g, cap, cur, rfl, _⟩
  · exact ⟨none, 0, by rw [h0]⟩
  · exact ⟨_, _, rfl⟩
theorem OwnV.block (h : OwnV e base w v vs) : ∀ k, v.ownBlock = some k → base ≤ k := by
  intro k hk
  rcases h.2 with ⟨rfl, h0⟩ | ⟨g, cap, cur, rfl, hg, _⟩
  · simp [Value.ownBlock] at hk
  · simp [Value.ownBlock] at hk; omega
theorem OwnV.vals (h : OwnV e base w v vs) : Vals w v vs := by
  rcases h.2 with ⟨rfl, h0⟩ | ⟨g, cap, cur, rfl, hg, hh, hn, _, hc, ht⟩
  · have : vs = [] := List.eq_nil_of_length_eq_zero h0
    subst this
    exact Vals.nil w
  · refine ⟨_, _, rfl, hn, fun k x hk => ⟨g, 0, rfl, ?_⟩⟩
    rw [cell_of_row w g _ cur e (0, 0) hh, Nat.zero_add]
    have hk' : k < vs.length := (List.getElem?_eq_some_iff.1 hk).1
    have h1 : (cur.toList.take (vs.length * 1))[k]? = some x := by rw [ht, hk]
    rw [List.getElem?_take, if_pos (by omega)] at h1
    simpa using h1
theorem OwnV.lt (h : OwnV e base w v vs) : ∀ k, v.ownBlock = some k → k < w.heap.size := by
  intro k hk
  rcases h.2 with ⟨rfl, h0⟩ | ⟨g, cap, cur, rfl, hg, hh, _⟩
  · simp [Value.ownBlock] at hk
  · simp [Value.ownBlock] at hk
    subst hk
    rcases Nat.lt_or_ge g w.heap.size with hlt | hge
    · exact hlt
    · rw [Array.getElem?_eq_none hge] at hh; cases hh
theorem OwnV.below {B : Nat} (h : OwnV e base w v vs) (hb : Below B w w') (hB : w.heap.size ≤ B) : OwnV e base w' v vs := by
  have hl := h.lt
  refine ⟨h.1, ?_⟩
  rcases h.2 with h0 | ⟨g, cap, cur, e1, hg, hh, r⟩
  · exact .inl h0
  · refine .inr ⟨g, cap, cur, e1, hg, ?_, r⟩
    have hlt : g < w.heap.size := hl g (by rw [e1]; simp [Value.ownBlock])
    rw [hb.block g (by omega)]; exact hh
theorem OwnV.alloc (h : OwnV e base w v vs) (o : Obj) : OwnV e base (w.alloc o) v vs := h.below ((Below.refl _ _).alloc (Nat.le_refl _) o) (Nat.le_refl _)
theorem OwnV.drew (h : OwnV e base w v vs) : OwnV e base w.drew v vs := h
theorem OwnV.drewN (h : OwnV e base w v vs) (n : Nat) : OwnV e base (w.drewN n) v vs := h

/-- the run of append(v, u...) -/
theorem run_appV {P : Program} {t ty : TypeId} {i : TypeInfo} {z : Value} (ht : P.underlying t = some (.slice e)) (hi : P.info? e = some i) (hz : i.zero = some z) (hs : i.size = 1) (hby : i.bytes ≤ 24) (hzc : z.cells.size = 1)
    (h : OwnV e base w v vs) {u : Value} {ys : List Value} (hu : Vals w u ys) (h1 : ∀ q ∈ ys, q.oneCell' = true) (hlen : vs.length + ys.length ≤ 1000000) (hbase : base ≤ w.heap.size) :
    ∃ v' w', (Builtin.append_ #[t, t] ty #[v, u]).run P w = .ok v' w' ∧ OwnV e base w' v' (vs ++ ys) ∧ Below base w w' ∧ (∀ k, k < w.heap.size → v.ownBlock ≠ some k → w'.heap[k]? = w.heap[k]?) ∧
      (v'.ownBlock = v.ownBlock ∨ v'.ownBlock = some w.heap.size) := by
  obtain ⟨A, c, rfl, hc, hx⟩ := hu
  cases A with
  | none =>
    have hy : ys = [] := by
      cases ys with
      | nil => rfl
      | cons y ys => obtain ⟨b, o, hA, _⟩ := hx 0 y rfl; cases hA
    subst hy
    refine ⟨v, w, ?_, by simpa using h, Below.refl _ _, fun _ _ _ => rfl, .inl rfl⟩
    rcases h.2 with ⟨rfl, h0⟩ | ⟨g, cap, cur, rfl, _, _, hnc, _⟩
    · simp [Builtin.append_, run_underlying ht, sizeOf, typeInfo, hi, Builtin.lenOf, Builtin.firstCells]
    · simp [Builtin.append_, run_underlying ht, sizeOf, typeInfo, hi, Builtin.lenOf, Builtin.firstCells, hnc, storeCells]
  | some ad =>
    have hcells : ∀ j q, ys[j]? = some q → w.cell? (ad.add j) = some q := by
      intro j q hq
      obtain ⟨b, o, hA, hcell⟩ := hx j q hq
      injection hA with hA
      subst hA
      have : (⟨b, o, none⟩ : Addr).add j = ⟨b, o + j, none⟩ := by unfold Addr.add; split <;> simp_all
      rw [this]; exact hcell
    have hbb : (vs.length + ys.length) * i.bytes ≤ 140737488355328 := by
      have := Nat.mul_le_mul hlen hby
      omega
    obtain ⟨v', w', hrun, h2, h3, _, h5⟩ := run_append_own_at (P := P) w base t ty e i z 1 i.bytes ht hi hz hs rfl hzc (by decide) v vs.length vs h ad ys.length c ys (by simp) hcells
      h1 (by unfold maxLen; omega) hbb hbase
    refine ⟨v', w', hrun, ?_, (Below.refl _ _).grown h3 hbase h.block, fun k hk hne => h3.block k hk (fun e => hne e.symm), h5⟩
    unfold OwnV
    rw [List.length_append]
    exact h2
end

section
variable {P : Program} {w : World} {e : TypeId} {base : Nat} {v : Value} {vs : List Value}
theorem wp_appV {o : Oper} {a : Act} {K : Act → World → Prop} {Q : Exit → Act → World → Prop} (s x : Operand) (t : TypeId) (ho : o.op = .call { callee := .builtin .append, args := #[s, x], argTypes := #[t, t] })
    {i : TypeInfo} {z : Value} (ht : P.underlying t = some (.slice e)) (hi : P.info? e = some i) (hz : i.zero = some z) (hs : i.size = 1) (hby : i.bytes ≤ 24) (hzc : z.cells.size = 1)
    (hv : a.eval s = v) (h : OwnV e base w v vs) {u : Value} {ys : List Value} (hx : a.eval x = u) (hu : Vals w u ys) (h1 : ∀ q ∈ ys, q.oneCell' = true) (hlen : vs.length + ys.length ≤ 1000000) (hbase : base ≤ w.heap.size)
    (hK : ∀ v' w', OwnV e base w' v' (vs ++ ys) → Below base w w' → (∀ k, k < w.heap.size → v.ownBlock ≠ some k → w'.heap[k]? = w.heap[k]?) → (v'.ownBlock = v.ownBlock ∨ v'.ownBlock = some w.heap.size) → K (a.put o.dst v') w') : o.wp P a w K Q := by
  obtain ⟨v', w', hrun, h1, h2, h3, h4⟩ := run_appV (P := P) (ty := o.type) ht hi hz hs hby hzc h hu h1 hlen hbase
  unfold Oper.wp execOp
  simp only [ho, resolve, invoke, builtin, Sem.run_bind, Sem.run_pure, Result.andThen_ok, List.map_toArray, List.map_cons, List.map_nil, hv, hx, hrun]
  exact hK v' w' h1 h2 h3 h4
/-- in a plain region, behind 'at_builtin' -/
theorem wpList_appV {ops : Array Oper} {rest : List Oper} {o : Oper} {a : Act} {Q : Exit → Act → World → Prop} (hgd : o.guard = none) (s x : Operand) (t : TypeId) (ho : o.op = .call { callee := .builtin .append, args := #[s, x], argTypes := #[t, t] })
    {i : TypeInfo} {z : Value} (ht : P.underlying t = some (.slice e)) (hi : P.info? e = some i) (hz : i.zero = some z) (hs : i.size = 1) (hby : i.bytes ≤ 24) (hzc : z.cells.size = 1)
    (hv : a.eval s = v) (h : OwnV e base w v vs) {u : Value} {ys : List Value} (hx : a.eval x = u) (hu : Vals w u ys) (h1 : ∀ q ∈ ys, q.oneCell' = true) (hlen : vs.length + ys.length ≤ 1000000) (hbase : base ≤ w.heap.size)
    (hK : ∀ v' w', OwnV e base w' v' (vs ++ ys) → Below base w w' → (∀ k, k < w.heap.size → v.ownBlock ≠ some k → w'.heap[k]? = w.heap[k]?) → (v'.ownBlock = v.ownBlock ∨ v'.ownBlock = some w.heap.size) → wpList P ops Q rest (a.put o.dst v') w') : wpList P ops Q (o :: rest) a w :=
  wpList_plain hgd fun _ hk => wp_appV s x t ho ht hi hz hs hby hzc hv h hx hu h1 hlen hbase fun v' w' h1 h2 h3 h4 => hk _ _ (hK v' w' h1 h2 h3 h4)
end
end Go.Proofs.YtlbihllmpbhhcaaDoor

namespace Go.Proofs.YtlbihllmpbhhcaaDoor
open Go.RowKit
set_option linter.unusedVariables false

/-- is h the least of its cycle? -/
def isH (f : Nat → Nat) (n h : Nat) : Bool := (List.range h).all fun j => !rB f n j h
def hdU (f : Nat → Nat) (n k : Nat) : List Nat := (List.range k).filter (isH f n)
theorem hdU_succ (f : Nat → Nat) (n k : Nat) : hdU f n (k + 1) = hdU f n k ++ (if isH f n k then [k] else []) := by
  unfold hdU; rw [List.range_succ, List.filter_append]; simp [List.filter_cons]
theorem hdU_len (f : Nat → Nat) (n k : Nat) : (hdU f n k).length ≤ k := by
  have := List.length_filter_le (isH f n) (List.range k); simpa [hdU] using this
/-- the first i elements are at least h -/
def lsB (h : Nat) (xs : List Int) (i : Nat) : Bool := (xs.take i).all fun x => decide ((h : Int) ≤ x)
theorem lsB_succ (h : Nat) (xs : List Int) (i : Nat) (hi : i < xs.length) : lsB h xs (i + 1) = (lsB h xs i && decide ((h : Int) ≤ xs[i])) := by
  unfold lsB; rw [List.take_add_one, List.getElem?_eq_getElem hi]; simp only [List.all_append, Option.toList_some, List.all_cons, List.all_nil, Bool.and_true]
theorem lsB_isH {n : Nat} {f : Nat → Nat} (hf : PermF n f) {h p : Nat} (hh : h < n) (hp : 0 < p) (he : itr f p h = h) : lsB h (cyL f h p) p = isH f n h := by
  rw [Bool.eq_iff_iff]
  unfold lsB isH
  have hl : (cyL f h p).take p = cyL f h p := List.take_of_length_le (by rw [cyL_length]; exact Nat.le_refl _)
  rw [hl, cyL]
  simp only [List.all_eq_true, List.mem_map, List.mem_range, decide_eq_true_eq, forall_exists_index, and_imp, Bool.not_eq_true', ]
  constructor
  · intro H j hj
    rw [Bool.eq_false_iff]
    intro hr
    have hr' := (rB_iff hf (by omega)).1 hr
    have hs := hf.symm (by omega) hr'
    obtain ⟨k, hk⟩ := hs
    -- k modulo p
    have key : ∀ k, itr f k h = itr f (k % p) h := by
      intro k
      induction k using Nat.strongRecOn with
      | ind k ih =>
        rcases Nat.lt_or_ge k p with q | q
        · rw [Nat.mod_eq_of_lt q]
        · have e1 : k = (k - p) + p := by omega
          have e2 := ih (k - p) (by omega)
          have e3 : itr f k h = itr f (k - p) h := by
            have e4 := itr_add f (k - p) p h
            rw [he, ← e1] at e4
            exact e4
          have e5 : k % p = (k - p) % p := Nat.mod_eq_sub_mod q
          rw [e3, e2, e5]
    have := H ((itr f (k % p) h : Nat) : Int) (k % p) (Nat.mod_lt _ hp) rfl
    rw [← key, hk] at this
    omega
  · intro H x i hi hx
    subst hx
    rcases Nat.lt_or_ge (itr f i h) h with q | q
    · exfalso
      have := H _ q
      have h2 : rB f n (itr f i h) h = true := (rB_iff hf (hf.itr_lt hh i)).2 (hf.symm hh ⟨i, rfl⟩)
      rw [h2] at this
      cases this
    · omega

/-- the slices fs begin with the numbers hs, none of them in block g -/
def Firsts (w : World) (g : Option Nat) (fs : List Value) (hs : List Nat) : Prop :=
  fs.length = hs.length ∧ ∀ (i : Nat) (f : Value) (h : Nat), fs[i]? = some f → hs[i]? = some h → ∃ b l c, f = .slice (some ⟨b, 0, none⟩) l c ∧ 0 < l ∧ w.cell? ⟨b, 0, none⟩ = some (.int .i64 (h : Nat)) ∧ g ≠ some b
theorem Firsts.nil (w : World) : Firsts w none [] [] := ⟨rfl, fun i f h hf => by simp at hf⟩
theorem Firsts.keep {w w' : World} {g g' : Option Nat} {fs : List Value} {hs : List Nat} (h : Firsts w g fs hs) (hk : ∀ k, k < w.heap.size → g ≠ some k → w'.heap[k]? = w.heap[k]?) (hg : ∀ k, k < w.heap.size → g ≠ some k → g' ≠ some k) : Firsts w' g' fs hs := by
  refine ⟨h.1, fun i f h' h1 h2 => ?_⟩
  obtain ⟨b, l, c, e, hl, hc, hne⟩ := h.2 i f h' h1 h2
  have hlt := block_lt_of_cell hc
  refine ⟨b, l, c, e, hl, ?_, hg b hlt hne⟩
  rw [← hc]; unfold World.cell?; simp only; rw [hk b hlt hne]
theorem Firsts.snoc {w : World} {g : Option Nat} {fs : List Value} {hs : List Nat} (h : Firsts w g fs hs) {b l c k : Nat} (hl : 0 < l) (hc : w.cell? ⟨b, 0, none⟩ = some (.int .i64 (k : Nat))) (hne : g ≠ some b) :
    Firsts w g (fs ++ [Value.slice (some ⟨b, 0, none⟩) l c]) (hs ++ [k]) := by
  refine ⟨by simp [h.1], fun i f h' h1 h2 => ?_⟩
  rcases Nat.lt_or_ge i fs.length with q | q
  · rw [List.getElem?_append_left q] at h1
    rw [List.getElem?_append_left (by rw [← h.1]; exact q)] at h2
    exact h.2 i f h' h1 h2
  · rw [List.getElem?_append_right q] at h1
    rw [List.getElem?_append_right (by rw [← h.1]; exact q)] at h2
    have hi : i - fs.length = 0 := by
      have := (List.getElem?_eq_some_iff.1 h1).1; simp at this; omega
    rw [hi] at h1
    rw [← h.1, hi] at h2
    simp at h1 h2
    subst h1 h2
    exact ⟨b, l, c, rfl, hl, hc, hne⟩
theorem OwnI.form1 {e : TypeId} {base : Nat} {w : World} {v : Value} {xs : List Int} (h : OwnI e base w v xs) (hx : 0 < xs.length) : ∃ g c, v = .slice (some ⟨g, 0, none⟩) xs.length c ∧ base ≤ g ∧ g < w.heap.size := by
  have hi := h.ints
  rcases h.2 with ⟨rfl, h0⟩ | ⟨g, cap, cur, rfl, hg, _⟩
  · omega
  · obtain ⟨b, o, hA, hl, _⟩ := hi.at_ hx
    injection hA with hA
    injection hA with hA
    subst hA
    exact ⟨g, cap, rfl, hg, hl⟩
theorem info_ints : (Tryd.prog.info? 22).map (fun i => (i.zero, i.size, i.bytes)) = some (some (Value.slice none 0 0), 1, 24) := by kernel_rfl

end Go.Proofs.YtlbihllmpbhhcaaDoor

namespace Go.Proofs.YtlbihllmpbhhcaaDoor
set_option linter.unusedVariables false

/-- two slots further -/
def opp (h : Nat) : Nat := h / 4 * 4 + (h % 4 + 2) % 4
/-- the least label that a half-edge sees -/
def lowA (M : List Int) (l : List Nat) (h : Nat) : Nat :=
  if h % 2 = 1 then min (min (gn l h) (gn l (mt M h))) (gn l (opp h)) else min (gn l h) (gn l (mt M h))
def opA (M : List Int) (l : List Nat) (h : Nat) : List Nat := l.set h (lowA M l h)
def passA (M : List Int) (l : List Nat) : Nat → List Nat
  | 0 => l
  | k + 1 => opA M (passA M l k) k
def labA (M : List Int) (n : Nat) : Nat → List Nat
  | 0 => List.range n
  | t + 1 => passA M (labA M n t) n
theorem passA_length (M : List Int) (l : List Nat) : ∀ k, (passA M l k).length = l.length
  | 0 => rfl
  | k + 1 => by rw [passA, opA, List.length_set, passA_length M l k]
theorem labA_length (M : List Int) (n : Nat) : ∀ t, (labA M n t).length = n
  | 0 => by simp [labA]
  | t + 1 => by rw [labA, passA_length, labA_length M n t]
/-- the mates of n half-edges lie in range, and n is divided by 4 -/
def Rh (M : List Int) (n : Nat) : Prop := n % 4 = 0 ∧ ∀ h, h < n → mt M h < n
/-- the half-edge b sees a -/
def Sees (M : List Int) (n a b : Nat) : Prop := b < n ∧ (a = mt M b ∨ (b % 2 = 1 ∧ a = opp b))
section
variable {M : List Int} {n : Nat} (hR : Rh M n)
include hR
theorem opp_lt {h : Nat} (hh : h < n) : opp h < n := by have := hR.1; unfold opp; omega
theorem Sees.lt {a b : Nat} (h : Sees M n a b) : a < n ∧ b < n := by
  obtain ⟨h1, h2⟩ := h
  rcases h2 with rfl | ⟨_, rfl⟩
  · exact ⟨hR.2 b h1, h1⟩
  · exact ⟨opp_lt hR h1, h1⟩
omit hR in
theorem gn_opA {l : List Nat} (hl : l.length = n) {h : Nat} (hh : h < n) (c : Nat) : gn (opA M l h) c = if c = h then lowA M l h else gn l c := gn_set _ _ _ _ (by omega)
omit hR in
theorem opA_le {l : List Nat} (hl : l.length = n) {h : Nat} (hh : h < n) (c : Nat) : gn (opA M l h) c ≤ gn l c := by
  rw [gn_opA hl hh]
  split
  · subst c; unfold lowA; split <;> omega
  · exact Nat.le_refl _
omit hR in
theorem passA_le {l : List Nat} (hl : l.length = n) (c : Nat) : ∀ (k j : Nat), j ≤ k → k ≤ n → gn (passA M l k) c ≤ gn (passA M l j) c := by
  intro k
  induction k with
  | zero => intro j h1 _; have : j = 0 := by omega
            subst this; exact Nat.le_refl _
  | succ k ih =>
    intro j h1 h2
    rcases Nat.lt_or_ge j (k + 1) with h | h
    · refine Nat.le_trans ?_ (ih j (by omega) (by omega))
      exact opA_le (n := n) (M := M) (l := passA M l k) ((passA_length M l k).trans hl) (by omega) c
    · have : j = k + 1 := by omega
      subst this; exact Nat.le_refl _
omit hR in
theorem passA_edge {l : List Nat} (hl : l.length = n) {a b : Nat} (h : Sees M n a b) : gn (passA M l n) b ≤ gn l a := by
  obtain ⟨h1, h2⟩ := h
  have e1 := passA_le (M := M) hl b n (b + 1) (by omega) (Nat.le_refl _)
  have e2 := passA_le (M := M) hl a b 0 (by omega) (by omega)
  have e3 := gn_opA (M := M) (l := passA M l b) (by rw [passA_length]; exact hl) h1 b
  have e4 : gn (passA M l 0) a = gn l a := rfl
  rw [passA, e3, if_pos rfl] at e1
  rw [e4] at e2
  refine Nat.le_trans e1 (Nat.le_trans ?_ e2)
  unfold lowA
  rcases h2 with rfl | ⟨h3, rfl⟩
  · split <;> omega
  · rw [if_pos h3]; omega
theorem opA_conn {l : List Nat} (hl : l.length = n) (hc : ∀ c, c < n → Conn (Sees M n) (gn l c) c) {h : Nat} (hh : h < n) (c : Nat) (hcn : c < n) : Conn (Sees M n) (gn (opA M l h) c) c := by
  rw [gn_opA hl hh]
  split
  · subst c
    have c1 := hc h hh
    have c2 := (hc (mt M h) (hR.2 h hh)).step ⟨hh, Or.inl rfl⟩
    have mn : ∀ x y, Conn (Sees M n) x h → Conn (Sees M n) y h → Conn (Sees M n) (min x y) h := by
      intro x y hx hy
      rcases Nat.le_total x y with q | q
      · rw [Nat.min_eq_left q]; exact hx
      · rw [Nat.min_eq_right q]; exact hy
    unfold lowA
    split
    · rename_i ho
      exact mn _ _ (mn _ _ c1 c2) ((hc (opp h) (opp_lt hR hh)).step ⟨hh, Or.inr ⟨ho, rfl⟩⟩)
    · exact mn _ _ c1 c2
  · exact hc c hcn
theorem passA_conn {l : List Nat} (hl : l.length = n) (hc : ∀ c, c < n → Conn (Sees M n) (gn l c) c) : ∀ k, k ≤ n → ∀ c, c < n → Conn (Sees M n) (gn (passA M l k) c) c := by
  intro k
  induction k with
  | zero => intro _; exact hc
  | succ k ih =>
    intro h c hcn
    exact opA_conn hR (by rw [passA_length]; exact hl) (ih (by omega)) (by omega) c hcn
theorem labA_conn : ∀ t c, c < n → Conn (Sees M n) (gn (labA M n t) c) c := by
  intro t
  induction t with
  | zero => intro c hc; rw [labA, gn, List.getElem?_range hc]; exact .refl _
  | succ t ih => exact passA_conn hR (labA_length M n t) ih _ (Nat.le_refl _)
/-- the label is the least of the arc -/
theorem labA_least {c m : Nat} (hm : m < n) (h : Conn (Sees M n) m c) : gn (labA M n n) c ≤ m := by
  refine passes (E := Sees M n) (n := n) (fun a b e => e.lt hR) (fun t c => gn (labA M n t) c) ?_ ?_ ?_ hm h
  · intro c hc; show gn (labA M n 0) c ≤ c
    rw [labA, gn, List.getElem?_range hc]; exact Nat.le_refl _
  · intro t c; exact passA_le (M := M) (labA_length M n t) c n 0 (by omega) (Nat.le_refl _)
  · intro t a b e; exact passA_edge (labA_length M n t) e
end
end Go.Proofs.YtlbihllmpbhhcaaDoor
