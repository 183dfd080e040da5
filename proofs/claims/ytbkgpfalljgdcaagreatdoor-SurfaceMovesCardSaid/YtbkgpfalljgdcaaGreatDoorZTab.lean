/- Matrices of uint64 in memory, for seats without the texts of chapter 27: Mup's text, with what it takes of Lbp, Fnd and Smp. -/
/- A region that draws its order, whose operations leave what was there as it is (they may make memory and call): each operation is walked once; of each result a fact that later growth keeps. -/
/- XPhi for a region with guards ('&&', '||') that are all met: each operation is walked once; of a guarded one it is shown that its guard holds. -/
/- A region that draws its order, whose operations read or call quietly, but for a store at its end: each operation is walked once, by a table of values. -/
import Derived.Test.YtbkgpfalljgdcaaGreatDoorZBld
import Derived.Deep.RegionWith
import Derived.Deep.CutBlock
import Derived.Test.YtbkgpfalljgdcaaGreatDoorZAps
import Derived.Deep.Draws
namespace Go.Proofs.YtbkgpfalljgdcaaGreatDoor
open Go.RowKit
set_option linter.unusedVariables false

def gn (l : List Nat) (k : Nat) : Nat := l[k]?.getD 0
theorem gn_set (l : List Nat) (a x c : Nat) (ha : a < l.length) : gn (l.set a x) c = if c = a then x else gn l c := by
  unfold gn
  rw [List.getElem?_set]
  by_cases h : a = c
  · subst h; simp [ha]
  · simp [h, Ne.symm h]
structure Onl (g : Nat) (w w' : World) : Prop where
  os : w'.os = w.os
  tape : w'.tape = w.tape
  output : w'.output = w.output
  size : w'.heap.size = w.heap.size
  block : ∀ k, k ≠ g → w'.heap[k]? = w.heap[k]?
theorem Onl.refl (g : Nat) (w : World) : Onl g w w := ⟨rfl, rfl, rfl, rfl, fun _ _ => rfl⟩
theorem Onl.trans {g : Nat} {a b c : World} (h : Onl g a b) (k : Onl g b c) : Onl g a c := ⟨k.os.trans h.os, k.tape.trans h.tape, k.output.trans h.output, k.size.trans h.size, fun i hi => (k.block i hi).trans (h.block i hi)⟩
theorem Onl.drew {g : Nat} {a w : World} (h : Onl g a w) : Onl g a w.drew := ⟨h.os, h.tape, h.output, h.size, h.block⟩
theorem Onl.drewN {g : Nat} {a w : World} (h : Onl g a w) (n : Nat) : Onl g a (w.drewN n) := ⟨h.os, h.tape, h.output, h.size, h.block⟩
theorem Onl.below {g B : Nat} {a w : World} (h : Onl g a w) (hB : B ≤ g) : Below B a w := ⟨h.os, h.tape, h.output, Nat.le_of_eq h.size.symm, fun k hk => h.block k (by omega)⟩
theorem Onl.setCell {g : Nat} {a w : World} (h : Onl g a w) (i : Nat) (u : Value) : Onl g a (w.setCell ⟨g, i, none⟩ u) := by
  have hb := (Below.refl 0 w).setCell (p := ⟨g, i, none⟩) (Nat.zero_le _) u
  exact ⟨hb.os.trans h.os, hb.tape.trans h.tape, hb.output.trans h.output, by simp [h.size], fun k hk => (Below.heap_setCell w ⟨g, i, none⟩ u k hk).trans (h.block k hk)⟩
theorem Arr.onl {g b : Nat} {w w' : World} {t : TypeId} {cs : List Value} (h : Arr w b t cs) (o : Onl g w w') (hb : b ≠ g) : Arr w' b t cs := (o.block b hb).trans h
theorem Onl.cell {g : Nat} {w w' : World} (o : Onl g w w') {p : Addr} (hp : p.block ≠ g) : w'.cell? p = w.cell? p := by
  unfold World.cell?; rw [o.block p.block hp]

/-- numbers as cells of uint64 -/
def uc (l : List Nat) : List Value := l.map fun (k : Nat) => Value.int .u64 (k : Int)
theorem uc_length (l : List Nat) : (uc l).length = l.length := by simp [uc]
theorem uc_get {l : List Nat} {k : Nat} (h : k < l.length) : (uc l)[k]? = some (.int .u64 (gn l k : Nat)) := by
  unfold uc gn; rw [List.getElem?_map, List.getElem?_eq_getElem h]; rfl
theorem uc_set (l : List Nat) (k x : Nat) : (uc l).set k (.int .u64 (x : Nat)) = uc (l.set k x) := by
  unfold uc; rw [List.map_set]
theorem gn_ext {a b : List Nat} (hl : a.length = b.length) (h : ∀ i, i < a.length → gn a i = gn b i) : a = b := by
  apply List.ext_getElem hl
  intro i h1 h2
  have := h i h1
  unfold gn at this
  rw [List.getElem?_eq_getElem h1, List.getElem?_eq_getElem h2] at this
  exact this
theorem gn_map_range (n : Nat) (f : Nat → Nat) (i : Nat) : gn ((List.range n).map f) i = if i < n then f i else 0 := by
  unfold gn
  by_cases h : i < n
  · simp [h]
  · rw [if_neg h, List.getElem?_eq_none (by simp; omega)]; rfl

/-- row i of a matrix -/
def gr (A : List (List Nat)) (i : Nat) : List Nat := A[i]?.getD []
/-- the element in row i and column j -/
def ge (A : List (List Nat)) (i j : Nat) : Nat := gn (gr A i) j
theorem gr_lt {A : List (List Nat)} {i : Nat} (h : i < A.length) : A[i]? = some (gr A i) := by
  unfold gr; rw [List.getElem?_eq_getElem h]; rfl
theorem gr_set (A : List (List Nat)) (a : Nat) (x : List Nat) (c : Nat) (ha : a < A.length) : gr (A.set a x) c = if c = a then x else gr A c := by
  unfold gr
  rw [List.getElem?_set]
  by_cases h : a = c
  · subst h; simp [ha]
  · rw [if_neg h, if_neg (fun e => h e.symm)]
theorem gr_ext {A B : List (List Nat)} (hl : A.length = B.length) (h : ∀ i, i < A.length → gr A i = gr B i) : A = B := by
  apply List.ext_getElem hl
  intro i h1 h2
  have := h i h1
  unfold gr at this
  rw [List.getElem?_eq_getElem h1, List.getElem?_eq_getElem h2] at this
  exact this

/-- a row's slice -/
def hd (C b : Nat) : Value := .slice (some ⟨b, 0, none⟩) C C

/-- what was there has stayed but for the blocks of L -/
structure Wr (L : List Nat) (w w' : World) : Prop where
  os : w'.os = w.os
  tape : w'.tape = w.tape
  output : w'.output = w.output
  size : w.heap.size ≤ w'.heap.size
  block : ∀ k, k < w.heap.size → k ∉ L → w'.heap[k]? = w.heap[k]?
section
variable {L : List Nat} {w w' w'' : World}
theorem Wr.refl (L : List Nat) (w : World) : Wr L w w := ⟨rfl, rfl, rfl, Nat.le_refl _, fun _ _ _ => rfl⟩
theorem Wr.trans (h : Wr L w w') (k : Wr L w' w'') : Wr L w w'' :=
  ⟨k.os.trans h.os, k.tape.trans h.tape, k.output.trans h.output, Nat.le_trans h.size k.size, fun i h1 h2 => (k.block i (Nat.lt_of_lt_of_le h1 h.size) h2).trans (h.block i h1 h2)⟩
theorem Wr.drew (h : Wr L w w') : Wr L w w'.drew := ⟨h.os, h.tape, h.output, h.size, h.block⟩
theorem Wr.drewN (h : Wr L w w') (n : Nat) : Wr L w (w'.drewN n) := ⟨h.os, h.tape, h.output, h.size, h.block⟩
theorem Wr.of_onl {g : Nat} (h : Onl g w w') (hg : g ∈ L) : Wr L w w' := ⟨h.os, h.tape, h.output, Nat.le_of_eq h.size.symm, fun k _ hk => h.block k (fun e => hk (e ▸ hg))⟩
theorem Wr.setCell (h : Wr L w w') {g : Nat} (hg : g ∈ L) (i : Nat) (u : Value) : Wr L w (w'.setCell ⟨g, i, none⟩ u) := h.trans (Wr.of_onl ((Onl.refl g w').setCell i u) hg)
theorem Wr.of_below (h : Below w.heap.size w w') : Wr L w w' := ⟨h.os, h.tape, h.output, h.size, fun k hk _ => h.block k hk⟩
theorem Wr.alloc (h : Wr L w w') (o : Obj) : Wr L w (w'.alloc o) := h.trans (Wr.of_below ((Below.refl _ _).alloc (Nat.le_refl _) o))
theorem Wr.below (h : Wr L w w') {B : Nat} (hB : B ≤ w.heap.size) (hL : ∀ k ∈ L, B ≤ k) : Below B w w' := ⟨h.os, h.tape, h.output, h.size, fun k hk => h.block k (by omega) (fun hm => by have := hL k hm; omega)⟩
theorem Wr.mono {L' : List Nat} (h : Wr L w w') (hs : ∀ k ∈ L, k ∈ L') : Wr L' w w' := ⟨h.os, h.tape, h.output, h.size, fun k hk hn => h.block k hk (fun hm => hn (hs k hm))⟩
theorem Arr.wr {b : Nat} {t : TypeId} {cs : List Value} (h : Arr w b t cs) (o : Wr L w w') (hb : b ∉ L) : Arr w' b t cs := (o.block b h.lt hb).trans h
end

/-- Block R holds the slices of the rows bs, each of C columns; they read as A. -/
structure MU (w : World) (R : Nat) (bs : List Nat) (C : Nat) (A : List (List Nat)) : Prop where
  len : bs.length = A.length
  inj : ∀ (i j b : Nat), bs[i]? = some b → bs[j]? = some b → i = j
  notR : R ∉ bs
  outer : Arr w R 118 (bs.map (hd C))
  row : ∀ (i b : Nat), bs[i]? = some b → Arr w b 115 (uc (gr A i))
  cols : ∀ i, i < A.length → (gr A i).length = C

section
variable {w w' : World} {R C : Nat} {bs : List Nat} {A : List (List Nat)}
theorem MU.bl (h : MU w R bs C A) {i : Nat} (hi : i < A.length) : ∃ b, bs[i]? = some b ∧ b ∈ bs := by
  have hi' : i < bs.length := by rw [h.len]; exact hi
  exact ⟨bs[i], List.getElem?_eq_getElem hi', List.getElem_mem hi'⟩
theorem MU.keep (h : MU w R bs C A) (hR : w'.heap[R]? = w.heap[R]?) (hb : ∀ b ∈ bs, w'.heap[b]? = w.heap[b]?) : MU w' R bs C A :=
  ⟨h.len, h.inj, h.notR, hR.trans h.outer, fun i b hi => (hb b (List.mem_of_getElem? hi)).trans (h.row i b hi), h.cols⟩
theorem MU.drew (h : MU w R bs C A) : MU w.drew R bs C A := h.keep rfl fun _ _ => rfl
theorem MU.drewN (h : MU w R bs C A) (n : Nat) : MU (w.drewN n) R bs C A := h.keep rfl fun _ _ => rfl
theorem MU.lt (h : MU w R bs C A) : ∀ b ∈ bs, b < w.heap.size := by
  intro b hb
  obtain ⟨i, hi⟩ := List.getElem?_of_mem hb
  exact (h.row i b hi).lt
theorem MU.below (h : MU w R bs C A) (hb : Below w.heap.size w w') : MU w' R bs C A := h.keep (hb.block R h.outer.lt) fun b hm => hb.block b (h.lt b hm)
theorem MU.wr {L : List Nat} (h : MU w R bs C A) (o : Wr L w w') (hR : R ∉ L) (hb : ∀ b ∈ bs, b ∉ L) : MU w' R bs C A := h.keep (o.block R h.outer.lt hR) fun b hm => o.block b (h.lt b hm) (hb b hm)
theorem MU.alloc (h : MU w R bs C A) (o : Obj) : MU (w.alloc o) R bs C A := h.below ((Below.refl _ _).alloc (Nat.le_refl _) o)
theorem MU.cellR (h : MU w R bs C A) {i b : Nat} (hi : bs[i]? = some b) : w.cell? ⟨R, i, none⟩ = some (.slice (some ⟨b, 0, none⟩) C C) := by
  rw [h.outer.cell, List.getElem?_map, hi]; rfl
theorem MU.ilt (h : MU w R bs C A) {i b : Nat} (hi : bs[i]? = some b) : i < A.length := by
  rw [← h.len]; exact (List.getElem?_eq_some_iff.1 hi).1
theorem MU.cell (h : MU w R bs C A) {i b j : Nat} (hi : bs[i]? = some b) (hj : j < C) : w.cell? ⟨b, j, none⟩ = some (.int .u64 (ge A i j : Nat)) := by
  rw [(h.row i b hi).cell]
  exact uc_get (by rw [h.cols i (h.ilt hi)]; exact hj)
theorem MU.ne (h : MU w R bs C A) {i j b c : Nat} (hi : bs[i]? = some b) (hj : bs[j]? = some c) (hij : i ≠ j) : b ≠ c := by
  intro e
  subst e
  exact hij (h.inj i j b hi hj)
theorem MU.neR (h : MU w R bs C A) {i b : Nat} (hi : bs[i]? = some b) : b ≠ R := fun e => h.notR (e ▸ List.mem_of_getElem? hi)
/-- a row is written -/
theorem MU.setRow (h : MU w R bs C A) {i b : Nat} (hi : bs[i]? = some b) (o : Onl b w w') {r : List Nat} (hr : r.length = C) (ha : Arr w' b 115 (uc r)) : MU w' R bs C (A.set i r) := by
  have hiA := h.ilt hi
  refine ⟨by simp [h.len], h.inj, h.notR, h.outer.onl o (fun e => h.neR hi e.symm), fun k c hk => ?_, fun k hk => ?_⟩
  · rw [gr_set _ _ _ _ hiA]
    by_cases e : k = i
    · subst e
      rw [hi] at hk
      injection hk with hk
      subst hk
      rw [if_pos rfl]; exact ha
    · rw [if_neg e]
      exact (h.row k c hk).onl o (h.ne hk hi e)
  · rw [gr_set _ _ _ _ hiA]
    by_cases e : k = i
    · rw [if_pos e]; exact hr
    · rw [if_neg e]; exact h.cols k (by simpa using hk)
theorem MU.setCell (h : MU w R bs C A) {i b j : Nat} (hi : bs[i]? = some b) (hj : j < C) (x : Nat) : MU (w.setCell ⟨b, j, none⟩ (.int .u64 (x : Nat))) R bs C (A.set i ((gr A i).set j x)) := by
  refine h.setRow hi ((Onl.refl b w).setCell j _) (by simp [h.cols i (h.ilt hi)]) ?_
  have := (h.row i b hi).set j (.int .u64 (x : Nat))
  rwa [uc_set] at this
/-- two rows are exchanged -/
def swR (A : List (List Nat)) (i k : Nat) : List (List Nat) := (A.set i (gr A k)).set k (gr A i)
theorem swR_length (A : List (List Nat)) (i k : Nat) : (swR A i k).length = A.length := by simp [swR]
theorem gr_swR {A : List (List Nat)} {i k : Nat} (hi : i < A.length) (hk : k < A.length) (c : Nat) : gr (swR A i k) c = if c = k then gr A i else if c = i then gr A k else gr A c := by
  unfold swR
  rw [gr_set _ _ _ _ (by simpa using hk), gr_set _ _ _ _ hi]
theorem MU.swap (h : MU w R bs C A) {i k b c : Nat} (hi : bs[i]? = some b) (hk : bs[k]? = some c) (o : Onl R w w') (ha : Arr w' R 118 (((bs.set i c).set k b).map (hd C))) :
    MU w' R ((bs.set i c).set k b) C (swR A i k) ∧ (∀ x ∈ (bs.set i c).set k b, x ∈ bs) := by
  have hiA := h.ilt hi
  have hkA := h.ilt hk
  have hib : i < bs.length := by rw [h.len]; exact hiA
  have hkb : k < bs.length := by rw [h.len]; exact hkA
  have hget : ∀ x, ((bs.set i c).set k b)[x]? = if x = k then some b else if x = i then some c else bs[x]? := by
    intro x
    rw [List.getElem?_set]
    by_cases e : k = x
    · subst e; simp [hkb]
    · rw [if_neg e, if_neg (fun q : x = k => e q.symm), List.getElem?_set]
      by_cases f : i = x
      · subst f; simp [hib]
      · rw [if_neg f, if_neg (fun q : x = i => f q.symm)]
  have hmem : ∀ x ∈ (bs.set i c).set k b, x ∈ bs := by
    intro x hx
    obtain ⟨y, hy⟩ := List.getElem?_of_mem hx
    rw [hget] at hy
    split at hy
    · injection hy with hy; subst hy; exact List.mem_of_getElem? hi
    · split at hy
      · injection hy with hy; subst hy; exact List.mem_of_getElem? hk
      · exact List.mem_of_getElem? hy
  refine ⟨⟨by simp [swR, h.len], ?_, fun hm => h.notR (hmem _ hm), ha, ?_, ?_⟩, hmem⟩
  · intro x y v hx1 hy1
    rw [hget] at hx1 hy1
    by_cases e1 : x = k
    · rw [if_pos e1] at hx1
      by_cases e2 : y = k
      · omega
      · rw [if_neg e2] at hy1
        by_cases e3 : y = i
        · rw [if_pos e3] at hy1
          exfalso
          have hbc : b = c := by injection hx1 with q1; injection hy1 with q2; omega
          exact h.ne hi hk (by omega) hbc
        · rw [if_neg e3] at hy1
          exfalso
          injection hx1 with q1
          subst q1
          exact h.ne hi hy1 (by omega) rfl
    · rw [if_neg e1] at hx1
      by_cases e2 : y = k
      · rw [if_pos e2] at hy1
        by_cases e3 : x = i
        · rw [if_pos e3] at hx1
          exfalso
          have hbc : b = c := by injection hx1 with q1; injection hy1 with q2; omega
          exact h.ne hi hk (by omega) hbc
        · rw [if_neg e3] at hx1
          exfalso
          injection hy1 with q1
          subst q1
          exact h.ne hi hx1 (by omega) rfl
      · rw [if_neg e2] at hy1
        by_cases e3 : x = i
        · rw [if_pos e3] at hx1
          by_cases e4 : y = i
          · omega
          · rw [if_neg e4] at hy1
            exfalso
            injection hx1 with q1
            subst q1
            exact h.ne hk hy1 (by omega) rfl
        · rw [if_neg e3] at hx1
          by_cases e4 : y = i
          · rw [if_pos e4] at hy1
            exfalso
            injection hy1 with q1
            subst q1
            exact h.ne hk hx1 (by omega) rfl
          · rw [if_neg e4] at hy1
            by_cases e5 : x = y
            · exact e5
            · exact absurd rfl (h.ne hx1 hy1 e5)
  · intro x d hx
    rw [hget] at hx
    rw [gr_swR hiA hkA]
    split at hx
    · next e =>
      injection hx with hx; subst hx
      rw [if_pos e]
      exact (h.row i b hi).onl o (h.neR hi)
    · next e =>
      rw [if_neg e]
      split at hx
      · next f =>
        injection hx with hx; subst hx
        rw [if_pos f]
        exact (h.row k c hk).onl o (h.neR hk)
      · next f =>
        rw [if_neg f]
        exact (h.row x d hx).onl o (h.neR hx)
  · intro x hx
    rw [gr_swR hiA hkA]
    rw [swR_length] at hx
    split
    · exact h.cols i hiA
    · split
      · exact h.cols k hkA
      · exact h.cols x hx
end
theorem gr_map_range (n : Nat) (f : Nat → List Nat) (i : Nat) : gr ((List.range n).map f) i = if i < n then f i else [] := by
  unfold gr
  by_cases h : i < n
  · simp [h]
  · rw [if_neg h, List.getElem?_eq_none (by simp; omega)]; rfl
theorem gr_out {A : List (List Nat)} {i : Nat} (h : A.length ≤ i) : gr A i = [] := by unfold gr; rw [List.getElem?_eq_none h]; rfl
/-- the rows from lo to hi are changed -/
def updR (A : List (List Nat)) (lo hi : Nat) (f : List Nat → List Nat) : List (List Nat) := (List.range A.length).map fun i => if lo ≤ i ∧ i < hi then f (gr A i) else gr A i
theorem updR_length (A : List (List Nat)) (lo hi : Nat) (f : List Nat → List Nat) : (updR A lo hi f).length = A.length := by simp [updR]
theorem gr_updR {A : List (List Nat)} {lo hi : Nat} {f : List Nat → List Nat} {i : Nat} (h : i < A.length) : gr (updR A lo hi f) i = if lo ≤ i ∧ i < hi then f (gr A i) else gr A i := by
  unfold updR; rw [gr_map_range, if_pos h]
theorem updR_start (A : List (List Nat)) (lo : Nat) (f : List Nat → List Nat) : updR A lo lo f = A := by
  apply gr_ext (updR_length _ _ _ _)
  intro i hi
  rw [updR_length] at hi
  rw [gr_updR hi, if_neg (by omega)]
theorem updR_step {A : List (List Nat)} {lo x : Nat} {f : List Nat → List Nat} (h1 : lo ≤ x) (h2 : x < A.length) : (updR A lo x f).set x (f (gr A x)) = updR A lo (x + 1) f := by
  apply gr_ext (by simp [updR_length])
  intro i hi
  have hi' : i < A.length := by simpa [updR_length] using hi
  rw [gr_set _ _ _ _ (by rw [updR_length]; exact h2), gr_updR hi', gr_updR hi']
  by_cases e : i = x
  · subst e; rw [if_pos rfl, if_pos (by omega)]
  · rw [if_neg e]
    by_cases q : lo ≤ i ∧ i < x
    · rw [if_pos q, if_pos (by omega)]
    · rw [if_neg q, if_neg (by omega)]
theorem gr_updR_at (A : List (List Nat)) (lo x : Nat) (f : List Nat → List Nat) : gr (updR A lo x f) x = gr A x := by
  by_cases h : x < A.length
  · rw [gr_updR h, if_neg (by omega)]
  · rw [gr_out (by rw [updR_length]; omega), gr_out (by omega)]
end Go.Proofs.YtbkgpfalljgdcaaGreatDoor

namespace Go.Proofs.YtbkgpfalljgdcaaGreatDoor
open Go.RowKit
set_option linter.unusedVariables false

section
variable {P : Program} {ops : Array Oper} {Q : Exit → Act → World → Prop}
/-- The region by facts. 'x i' is the value of operation i, 'D i' says that it has come up. -/
theorem wp_region_facts2 {id : Nat} {a : Act} {w : World} (hm : P.follows .mixedOrders = true) (hd : apartD (dstOf ops) = true) (hb : backD ops = true)
    (I : (Nat → Bool) → (Nat → Value) → World → Prop)
    (h0 : I (fun _ => false) (fun j => slotV a ((dstOf ops).getD (j - 0) none)) w.drew)
    (hstep : ∀ i o, ops[i]? = some o → ∀ D x w, I D x w → D i = false → (∀ j ∈ deps o, D j = true) → (∀ j, D j = true → ∀ k ∈ depsAt ops j, D k = true) → wpOp P ops Q i (fun a' w' => ∃ v, a' = (putAll (dstOf ops) 0 x a).put o.dst v ∧ I (upd D i true) (upd x i v) w') (putAll (dstOf ops) 0 x a) w)
    (hend : ∀ D x w, I D x w → (∀ i, i < ops.size → D i = true) → Q .normal (putAll (dstOf ops) 0 x a) w) : (Code.region id ops true).wp P Q a w := by
  refine wp_region_any hm (wpAny_inv hb (fun l a' w' => ∃ x, a' = putAll (dstOf ops) 0 x a ∧ (∀ j, l.getD j false = true → ∀ k ∈ depsAt ops j, l.getD k false = true) ∧ I (fun j => l.getD j false) x w') ?_ ?_ _ _ _ _ (by simp) ?_ ?_)
  · rintro l a' w' i hs ⟨x, rfl, hcl, hI⟩ hi
    obtain ⟨hun, o, ho, hdep⟩ := mem_ready.1 hi
    have hlt : i < ops.size := (Array.getElem?_eq_some_iff.1 ho).1
    have hdi : (dstOf ops).getD i none = o.dst := by
      have : ops[i] = o := by simpa [hlt] using ho
      simp [dstOf, hlt, this]
    have hdp : ∀ j ∈ deps o, l.getD j false = true := by
      intro j hj
      simp only [deps, List.mem_map, List.mem_filter] at hj
      obtain ⟨e, ⟨he, hbe⟩, rfl⟩ := hj
      exact hdep e (by simpa using he) hbe
    refine wpOp_mono ?_ (hstep i o ho (fun j => l.getD j false) x w' hI (by have h' : i < l.size := by omega
                                                                            simpa [Array.getD, h'] using hun) hdp hcl)
    · rintro a'' w'' ⟨v, rfl, hI'⟩
      refine ⟨upd x i v, ?_, ?_, ?_⟩
      · rw [← hdi, putAll_upd _ _ _ _ _ _ hd (by simpa [dstOf] using hlt), Nat.zero_add]
      · intro j hj k hk
        by_cases e : k = i
        · subst e
          have h' : k < l.size := by omega
          simp [Array.getD, h']
        rw [getD_set_ne _ (Ne.symm e)]
        by_cases ej : j = i
        · subst ej
          simp only [depsAt, ho] at hk
          exact hdp k hk
        · rw [getD_set_ne _ (Ne.symm ej)] at hj
          exact hcl j hj k hk
      · have : (fun j => (l.setIfInBounds i true).getD j false) = upd (fun j => l.getD j false) i true := by
          funext j
          by_cases e : j = i
          · subst e
            have h' : j < l.size := by omega
            simp [upd, Array.getD, h']
          · rw [upd_ne _ _ e, getD_set_ne _ (Ne.symm e)]
        rw [this]
        exact hI'
  · rintro l a' w' hs ⟨x, rfl, _, hI⟩ hall
    refine hend _ x w' hI (fun i hi => ?_)
    have := hall i hi
    cases hl : l.getD i false with
    | true => rfl
    | false => 
      rcases Nat.lt_or_ge i l.size with h' | h'
      · simp [Array.getD, h'] at this hl; rw [this] at hl; cases hl
      · omega
  · exact Nat.le_trans List.countP_le_length (by simp)
  · refine ⟨_, (putAll_start _ 0 a hd).symm, fun j hj => ?_, ?_⟩
    · by_cases h : j < ops.size <;> simp [Array.getD, h] at hj
    have : (fun j => (Array.replicate ops.size false).getD j false) = fun _ => false := by
      funext j
      by_cases h : j < ops.size <;> simp [Array.getD, h]
    rw [this]
    exact h0
/-- the region by facts, no operation guarded -/
theorem wp_region_facts2U {id : Nat} {l : List Oper} {a : Act} {w : World} (hm : P.follows .mixedOrders = true) (hd : apartD (dstOf l.toArray) = true) (hb : backD l.toArray = true) (hg : l.all (fun o => o.guard.isNone) = true) (hn : inD a.tmps.size (dstOf l.toArray) = true)
    (I : (Nat → Bool) → (Nat → Value) → World → Prop)
    (h0 : I (fun _ => false) (fun j => slotV a ((dstOf l.toArray).getD (j - 0) none)) w.drew)
    (hstep : AllOps (fun i o => ∀ D x w (b : Act), I D x w → D i = false → (∀ j ∈ deps o, D j = true) → (∀ j, D j = true → ∀ k ∈ depsAt l.toArray j, D k = true) → (∀ t : Nat, b.tmps[t]?.getD undef = look (dstOf l.toArray) x a t) → o.wp P b w (StepPost I D x i b o.dst) NoQ) 0 l)
    (hend : ∀ D x w, I D x w → (∀ i, i < l.length → D i = true) → Q .normal (putAll (dstOf l.toArray) 0 x a) w) : (Code.region id l.toArray true).wp P Q a w := by
  refine wp_region_facts2 hm hd hb I h0 (fun i o ho D x w hI hD hdep hcl => ?_) (fun D x w hI h => hend D x w hI (by simpa using h))
  have ho' : l[i]? = some o := by simpa using ho
  refine wpOp_plain ho ?_ ?_
  · have := List.all_eq_true.1 hg o (List.mem_of_getElem? ho')
    simpa using this
  · have := hstep.get _ _ i o ho' D x w (putAll (dstOf l.toArray) 0 x a)
    rw [Nat.zero_add] at this
    refine wp_noQ (this hI hD hdep hcl (fun t => ?_))
    rw [← Array.getD_eq_getD_getElem?, putAll_look _ _ _ _ _ hd hn]
    unfold look
    simp only [Nat.zero_add]
end
section
variable {P : Program} {Q : Exit → Act → World → Prop}
/-- behind one operation -/
def PhiPost (w : World) (Φ : Nat → Value → World → Prop) (i : Nat) (b : Act) (d : Option Tmp) (a' : Act) (w' : World) : Prop := ∃ v, a' = b.put d v ∧ Below w.heap.size w w' ∧ Φ i v w'
def PhiI (w0 : World) (Φ : Nat → Value → World → Prop) (x0 : Nat → Value) (D : Nat → Bool) (x : Nat → Value) (w : World) : Prop := Below w0.heap.size w0 w ∧ (∀ i, D i = true → Φ i (x i) w) ∧ ∀ i, D i = false → x i = x0 i
theorem wp_region_phi {id : Nat} {l : List Oper} {a : Act} {w0 : World} (hm : P.follows .mixedOrders = true) (hd : apartD (dstOf l.toArray) = true) (hb : backD l.toArray = true) (hg : l.all (fun o => o.guard.isNone) = true) (hn : inD a.tmps.size (dstOf l.toArray) = true)
    (Φ : Nat → Value → World → Prop) (hΦ : ∀ i v w w', Φ i v w → Below w.heap.size w w' → Φ i v w')
    (hstep : AllOps (fun i o => ∀ (x : Nat → Value) w (b : Act), Below w0.heap.size w0 w → (∀ j ∈ deps o, Φ j (x j) w) → (∀ j, i ∈ depsAt l.toArray j → x j = slotV a ((dstOf l.toArray).getD (j - 0) none)) → (∀ t : Nat, b.tmps[t]?.getD undef = look (dstOf l.toArray) x a t) → o.wp P b w (PhiPost w Φ i b o.dst) NoQ) 0 l)
    (hend : ∀ (x : Nat → Value) w, Below w0.heap.size w0 w → (∀ i, i < l.length → Φ i (x i) w) → Q .normal (putAll (dstOf l.toArray) 0 x a) w) : (Code.region id l.toArray true).wp P Q a w0 := by
  refine wp_region_facts2U hm hd hb hg hn (PhiI w0 Φ (fun j => slotV a ((dstOf l.toArray).getD (j - 0) none))) ⟨(Below.refl _ _).drew, fun i h => Bool.noConfusion h, fun _ _ => rfl⟩ ?_ ?_
  · have key : ∀ k o, l[k]? = some o → ∀ D x W (b : Act), PhiI w0 Φ (fun j => slotV a ((dstOf l.toArray).getD (j - 0) none)) D x W → D k = false → (∀ j ∈ deps o, D j = true) → (∀ j, D j = true → ∀ q ∈ depsAt l.toArray j, D q = true) → (∀ t : Nat, b.tmps[t]?.getD undef = look (dstOf l.toArray) x a t) → o.wp P b W (StepPost (PhiI w0 Φ (fun j => slotV a ((dstOf l.toArray).getD (j - 0) none))) D x k b o.dst) NoQ := by
      intro k o ho D x W b hI hD hdep hcl hbt
      have hs := hstep.get _ _ k o ho x W b hI.1 (fun j hj => hI.2.1 j (hdep j hj)) (fun j hj => hI.2.2 j (by
        cases h : D j with
        | false => rfl
        | true =>
          rw [Nat.zero_add] at hj
          have := hcl j h k hj
          rw [hD] at this; cases this)) hbt
      rw [Nat.zero_add] at hs
      refine Oper.wp_mono ?_ hs
      rintro a' w' ⟨v, rfl, hb', hv⟩
      refine ⟨v, rfl, hI.1.trans (hb'.mono hI.1.size), fun i hi => ?_, fun i hi => ?_⟩
      · by_cases e : i = k
        · subst e; rw [upd_same]; exact hv
        · rw [upd_ne _ _ e] at hi ⊢
          exact hΦ i (x i) W w' (hI.2.1 i hi) hb'
      · by_cases e : i = k
        · subst e; rw [upd_same] at hi; cases hi
        · rw [upd_ne _ _ e] at hi ⊢
          exact hI.2.2 i hi
    have aux : ∀ (r : List Oper) (s : Nat), (∀ k, r[k]? = l[s + k]?) → AllOps (fun i o => ∀ D x W (b : Act), PhiI w0 Φ (fun j => slotV a ((dstOf l.toArray).getD (j - 0) none)) D x W → D i = false → (∀ j ∈ deps o, D j = true) → (∀ j, D j = true → ∀ q ∈ depsAt l.toArray j, D q = true) → (∀ t : Nat, b.tmps[t]?.getD undef = look (dstOf l.toArray) x a t) → o.wp P b W (StepPost (PhiI w0 Φ (fun j => slotV a ((dstOf l.toArray).getD (j - 0) none))) D x i b o.dst) NoQ) s r := by
      intro r
      induction r with
      | nil => intro s _; trivial
      | cons o r ih =>
        intro s hr
        refine ⟨key s o (by have := hr 0; simpa using this.symm), ih (s + 1) (fun k => ?_)⟩
        have := hr (k + 1)
        rw [List.getElem?_cons_succ] at this
        rw [this]; congr 1; omega
    exact aux l 0 (fun k => by rw [Nat.zero_add])
  · intro D x W hI hall
    exact hend x W hI.1 (fun i hi => hI.2.1 i (hall i hi))
variable {w : World} {Φ : Nat → Value → World → Prop} {i : Nat} {b : Act} {o : Oper}
theorem phi_run (v : Value) (h : (execOp b.eval o).run P w = .ok (.value v) w) (hv : Φ i v w) : o.wp P b w (PhiPost w Φ i b o.dst) NoQ := by
  unfold Oper.wp; rw [h]; exact ⟨v, rfl, Below.refl _ _, hv⟩
theorem phi_make (v : Value) (w' : World) (h : (execOp b.eval o).run P w = .ok (.value v) w') (hb : Below w.heap.size w w') (hv : Φ i v w') : o.wp P b w (PhiPost w Φ i b o.dst) NoQ := by
  unfold Oper.wp; rw [h]; exact ⟨v, rfl, hb, hv⟩
theorem phi_call {f : FuncId} {args : Array Value} (h : (execOp b.eval o).run P w = .ok (.enter f args) w) (hc : Calls P f args w fun e w' => ∃ v, e = .returned v ∧ Below w.heap.size w w' ∧ Φ i v w') : o.wp P b w (PhiPost w Φ i b o.dst) NoQ := by
  unfold Oper.wp; rw [h]
  simp only [Oper.upon]
  refine hc.mono ?_
  rintro e w' ⟨v, rfl, hb, hv⟩
  exact ⟨v, rfl, hb, hv⟩
/-- the facts of a table: a value for each operation, but for those with a property of their own -/
def phiT (ev : Nat → Option Value) (Ψ : Nat → Value → World → Prop) (i : Nat) (v : Value) (w : World) : Prop := match ev i with | some u => v = u | none => Ψ i v w
end
end Go.Proofs.YtbkgpfalljgdcaaGreatDoor

namespace Go.Proofs.YtbkgpfalljgdcaaGreatDoor
open Go.RowKit
set_option linter.unusedVariables false

section
variable {P : Program} {ops : Array Oper} {Q : Exit → Act → World → Prop}
/-- the guard of an operation is met -/
def gOk (ops : Array Oper) (o : Oper) (b : Act) : Prop := match o.guard with
  | none => True
  | some (j, want) => ∃ d : Nat, (ops[j]?.bind (·.dst)) = some d ∧ b.tmps[d]?.getD undef = .bool want
theorem gOk.wanted {o : Oper} {b : Act} (h : gOk ops o b) : Region.wanted o (yielded ops b.tmps) = true := by
  unfold gOk at h
  unfold Region.wanted
  cases hg : o.guard with
  | none => rfl
  | some p =>
    obtain ⟨j, want⟩ := p
    rw [hg] at h
    obtain ⟨d, hd, hv⟩ := h
    have hv2 : b.tmps[d]? = some (.bool want) := by
      cases ht : b.tmps[d]? with
      | none => rw [ht] at hv; simp [undef] at hv
      | some u => rw [ht] at hv; simp at hv; rw [hv]
    show (yielded ops b.tmps j == some want) = true
    unfold yielded
    rw [hd, Option.bind_some, hv2]
    simp
theorem wpOp_met {i : Nat} {o : Oper} {a : Act} {w : World} {K : Act → World → Prop} (h : ops[i]? = some o) (hg : Region.wanted o (yielded ops a.tmps) = true) (hw : o.wp P a w K Q) : wpOp P ops Q i K a w := by
  unfold wpOp
  simp only [h, hg, if_true]
  exact .inl hw
/-- the region by facts, all guards met -/
theorem wp_region_facts2G {id : Nat} {l : List Oper} {a : Act} {w : World} (hm : P.follows .mixedOrders = true) (hd : apartD (dstOf l.toArray) = true) (hb : backD l.toArray = true) (hn : inD a.tmps.size (dstOf l.toArray) = true)
    (I : (Nat → Bool) → (Nat → Value) → World → Prop)
    (h0 : I (fun _ => false) (fun j => slotV a ((dstOf l.toArray).getD (j - 0) none)) w.drew)
    (hstep : AllOps (fun i o => ∀ D x w (b : Act), I D x w → D i = false → (∀ j ∈ deps o, D j = true) → (∀ j, D j = true → ∀ k ∈ depsAt l.toArray j, D k = true) → (∀ t : Nat, b.tmps[t]?.getD undef = look (dstOf l.toArray) x a t) → gOk l.toArray o b ∧ o.wp P b w (StepPost I D x i b o.dst) NoQ) 0 l)
    (hend : ∀ D x w, I D x w → (∀ i, i < l.length → D i = true) → Q .normal (putAll (dstOf l.toArray) 0 x a) w) : (Code.region id l.toArray true).wp P Q a w := by
  refine wp_region_facts2 hm hd hb I h0 (fun i o ho D x w hI hD hdep hcl => ?_) (fun D x w hI h => hend D x w hI (by simpa using h))
  have ho' : l[i]? = some o := by simpa using ho
  have := hstep.get _ _ i o ho' D x w (putAll (dstOf l.toArray) 0 x a)
  rw [Nat.zero_add] at this
  have h2 := this hI hD hdep hcl (fun t => by
    rw [← Array.getD_eq_getD_getElem?, putAll_look _ _ _ _ _ hd hn]
    unfold look
    simp only [Nat.zero_add])
  exact wpOp_met ho h2.1.wanted (wp_noQ h2.2)
end
section
variable {P : Program} {Q : Exit → Act → World → Prop}
theorem wp_region_phiG {id : Nat} {l : List Oper} {a : Act} {w0 : World} (hm : P.follows .mixedOrders = true) (hd : apartD (dstOf l.toArray) = true) (hb : backD l.toArray = true) (hn : inD a.tmps.size (dstOf l.toArray) = true)
    (Φ : Nat → Value → World → Prop) (hΦ : ∀ i v w w', Φ i v w → Below w.heap.size w w' → Φ i v w')
    (hstep : AllOps (fun i o => ∀ (x : Nat → Value) w (b : Act), Below w0.heap.size w0 w → (∀ j ∈ deps o, Φ j (x j) w) → (∀ j, i ∈ depsAt l.toArray j → x j = slotV a ((dstOf l.toArray).getD (j - 0) none)) → (∀ t : Nat, b.tmps[t]?.getD undef = look (dstOf l.toArray) x a t) → gOk l.toArray o b ∧ o.wp P b w (PhiPost w Φ i b o.dst) NoQ) 0 l)
    (hend : ∀ (x : Nat → Value) w, Below w0.heap.size w0 w → (∀ i, i < l.length → Φ i (x i) w) → Q .normal (putAll (dstOf l.toArray) 0 x a) w) : (Code.region id l.toArray true).wp P Q a w0 := by
  refine wp_region_facts2G hm hd hb hn (PhiI w0 Φ (fun j => slotV a ((dstOf l.toArray).getD (j - 0) none))) ⟨(Below.refl _ _).drew, fun i h => Bool.noConfusion h, fun _ _ => rfl⟩ ?_ ?_
  · have key : ∀ k o, l[k]? = some o → ∀ D x W (b : Act), PhiI w0 Φ (fun j => slotV a ((dstOf l.toArray).getD (j - 0) none)) D x W → D k = false → (∀ j ∈ deps o, D j = true) → (∀ j, D j = true → ∀ q ∈ depsAt l.toArray j, D q = true) → (∀ t : Nat, b.tmps[t]?.getD undef = look (dstOf l.toArray) x a t) → gOk l.toArray o b ∧ o.wp P b W (StepPost (PhiI w0 Φ (fun j => slotV a ((dstOf l.toArray).getD (j - 0) none))) D x k b o.dst) NoQ := by
      intro k o ho D x W b hI hD hdep hcl hbt
      have hs := hstep.get _ _ k o ho x W b hI.1 (fun j hj => hI.2.1 j (hdep j hj)) (fun j hj => hI.2.2 j (by
        cases h : D j with
        | false => rfl
        | true =>
          rw [Nat.zero_add] at hj
          have := hcl j h k hj
          rw [hD] at this; cases this)) hbt
      rw [Nat.zero_add] at hs
      refine ⟨hs.1, Oper.wp_mono ?_ hs.2⟩
      rintro a' w' ⟨v, rfl, hb', hv⟩
      refine ⟨v, rfl, hI.1.trans (hb'.mono hI.1.size), fun i hi => ?_, fun i hi => ?_⟩
      · by_cases e : i = k
        · subst e; rw [upd_same]; exact hv
        · rw [upd_ne _ _ e] at hi ⊢
          exact hΦ i (x i) W w' (hI.2.1 i hi) hb'
      · by_cases e : i = k
        · subst e; rw [upd_same] at hi; cases hi
        · rw [upd_ne _ _ e] at hi ⊢
          exact hI.2.2 i hi
    have aux : ∀ (r : List Oper) (s : Nat), (∀ k, r[k]? = l[s + k]?) → AllOps (fun i o => ∀ D x W (b : Act), PhiI w0 Φ (fun j => slotV a ((dstOf l.toArray).getD (j - 0) none)) D x W → D i = false → (∀ j ∈ deps o, D j = true) → (∀ j, D j = true → ∀ q ∈ depsAt l.toArray j, D q = true) → (∀ t : Nat, b.tmps[t]?.getD undef = look (dstOf l.toArray) x a t) → gOk l.toArray o b ∧ o.wp P b W (StepPost (PhiI w0 Φ (fun j => slotV a ((dstOf l.toArray).getD (j - 0) none))) D x i b o.dst) NoQ) s r := by
      intro r
      induction r with
      | nil => intro s _; trivial
      | cons o r ih =>
        intro s hr
        refine ⟨key s o (by have := hr 0; simpa using this.symm), ih (s + 1) (fun k => ?_)⟩
        have := hr (k + 1)
        rw [List.getElem?_cons_succ] at this
        rw [this]; congr 1; omega
    exact aux l 0 (fun k => by rw [Nat.zero_add])
  · intro D x W hI hall
    exact hend x W hI.1 (fun i hi => hI.2.1 i (hall i hi))
end
end Go.Proofs.YtbkgpfalljgdcaaGreatDoor

namespace Go.Proofs.YtbkgpfalljgdcaaGreatDoor
open Go.RowKit
set_option linter.unusedVariables false

/-- every operation before the last is needed by a later one -/
def needB (ops : Array Oper) (n : Nat) : Bool := (List.range n).all fun i => (List.range (n + 1)).any fun j => decide (i < j) && (depsAt ops j).contains i
theorem need_all {ops : Array Oper} {n : Nat} (h : needB ops n = true) {D : Nat → Bool} (hcl : ∀ j, D j = true → ∀ k ∈ depsAt ops j, D k = true) (hn : D n = true) : ∀ q i, i ≤ n → n - i ≤ q → D i = true := by
  intro q
  induction q with
  | zero => intro i h1 h2; obtain rfl : i = n := by omega
            exact hn
  | succ q ih =>
    intro i h1 h2
    by_cases e : i = n
    · rw [e]; exact hn
    · have h3 := List.all_eq_true.1 h i (by simp; omega)
      obtain ⟨j, hj, h4⟩ := List.any_eq_true.1 h3
      simp only [Bool.and_eq_true, decide_eq_true_eq, List.contains_iff_mem] at h4
      simp only [List.mem_range] at hj
      exact hcl j (ih j (by omega) (by omega)) i h4.2

section
variable {P : Program} {Q : Exit → Act → World → Prop}
/-- behind one operation of the table -/
def TabPost (w : World) (ev : Nat → Value) (S : World → World) (n i : Nat) (b : Act) (d : Option Tmp) (a' : Act) (w' : World) : Prop := a' = b.put d (ev i) ∧ ∃ m, w' = if i = n then S (w.drewN m) else w.drewN m
/-- what the frame holds before operation o -/
def Tabs (l : List Oper) (ev : Nat → Value) (a : Act) (o : Oper) (b : Act) : Prop :=
  ∀ t : Nat, (match (dstOf l.toArray).idxOf? (some t) with | some j => (deps o).contains j | none => true) = true → b.tmps[t]?.getD undef = look (dstOf l.toArray) ev a t
def TabI (w : World) (ev : Nat → Value) (S : World → World) (n : Nat) (D : Nat → Bool) (x : Nat → Value) (W : World) : Prop :=
  (∀ i, D i = true → x i = ev i) ∧ ∃ m, W = if D n = true then S (w.drewN m) else w.drewN m
theorem wp_region_table {id : Nat} {l : List Oper} {a : Act} {w : World} (n : Nat) (hm : P.follows .mixedOrders = true) (hd : apartD (dstOf l.toArray) = true) (hb : backD l.toArray = true) (hg : l.all (fun o => o.guard.isNone) = true) (hn : inD a.tmps.size (dstOf l.toArray) = true)
    (hlen : l.length = n + 1) (hneed : needB l.toArray n = true) (ev : Nat → Value) (S : World → World)
    (hstep : AllOps (fun i o => ∀ m (b : Act), Tabs l ev a o b → o.wp P b (w.drewN m) (TabPost w ev S n i b o.dst) NoQ) 0 l)
    (hend : ∀ m, Q .normal (putAll (dstOf l.toArray) 0 ev a) (S (w.drewN m))) : (Code.region id l.toArray true).wp P Q a w := by
  refine wp_region_factsU hm hd hb hg hn (TabI w ev S n) (fun x => ⟨fun i h => Bool.noConfusion h, 1, rfl⟩) ?_ ?_
  · have key : ∀ k o, l[k]? = some o → ∀ D x W (b : Act), TabI w ev S n D x W → D k = false → (∀ j ∈ deps o, D j = true) → (∀ j, D j = true → ∀ q ∈ depsAt l.toArray j, D q = true) → (∀ t : Nat, b.tmps[t]?.getD undef = look (dstOf l.toArray) x a t) → o.wp P b W (StepPost (TabI w ev S n) D x k b o.dst) NoQ := by
      intro k o ho D x W b hI hD hdep hcl hbt
      have hk : k ≤ n := by have := (List.getElem?_eq_some_iff.1 ho).1; omega
      have hDn : D n = false := by
        cases h : D n with
        | false => rfl
        | true => have := need_all hneed hcl h _ k hk (Nat.le_refl _); rw [this] at hD; cases hD
      obtain ⟨hx, m, hW⟩ := hI
      rw [hDn] at hW
      simp only [Bool.false_eq_true, if_false] at hW
      subst hW
      have hs := hstep.get _ _ k o ho m b (fun t ht => by
        rw [hbt t]
        unfold look
        cases hq : (dstOf l.toArray).idxOf? (some t) with
        | none => rfl
        | some j =>
          rw [hq] at ht
          simp only [List.contains_iff_mem] at ht
          exact hx j (hdep j ht))
      rw [Nat.zero_add] at hs
      refine Oper.wp_mono ?_ hs
      rintro a' w' ⟨rfl, m', hw'⟩
      refine ⟨ev k, rfl, fun i hi => ?_, m', ?_⟩
      · by_cases e : i = k
        · subst e; simp
        · rw [upd_ne _ _ e] at hi ⊢; exact hx i hi
      · rw [hw']
        by_cases e : k = n
        · subst e; simp
        · rw [if_neg e, upd_ne _ _ (fun h => e h.symm), hDn]; simp
    have aux : ∀ (r : List Oper) (s : Nat), (∀ k, r[k]? = l[s + k]?) → AllOps (fun i o => ∀ D x W (b : Act), TabI w ev S n D x W → D i = false → (∀ j ∈ deps o, D j = true) → (∀ j, D j = true → ∀ q ∈ depsAt l.toArray j, D q = true) → (∀ t : Nat, b.tmps[t]?.getD undef = look (dstOf l.toArray) x a t) → o.wp P b W (StepPost (TabI w ev S n) D x i b o.dst) NoQ) s r := by
      intro r
      induction r with
      | nil => intro s _; trivial
      | cons o r ih =>
        intro s hr
        refine ⟨key s o (by have := hr 0; simpa using this.symm), ih (s + 1) (fun k => ?_)⟩
        have := hr (k + 1)
        rw [List.getElem?_cons_succ] at this
        rw [this]; congr 1; omega
    exact aux l 0 (fun k => by rw [Nat.zero_add])
  · intro D x W hI hall
    obtain ⟨hx, m, hW⟩ := hI
    have hDn := hall n (by omega)
    rw [hDn] at hW
    simp only [if_true] at hW
    subst hW
    have : putAll (dstOf l.toArray) 0 x a = putAll (dstOf l.toArray) 0 ev a := putAll_congr _ _ _ _ _ (fun j _ h2 => hx j (hall j (by simpa [dstOf] using h2)))
    rw [this]
    exact hend m
variable {w : World} {ev : Nat → Value} {S : World → World} {n i m : Nat} {b : Act} {o : Oper}
theorem tab_run (hi : i ≠ n) (v : Value) (hv : ev i = v) (h : (execOp b.eval o).run P (w.drewN m) = .ok (.value v) (w.drewN m)) : o.wp P b (w.drewN m) (TabPost w ev S n i b o.dst) NoQ := by
  unfold Oper.wp; rw [h]; exact ⟨by rw [hv], m, by rw [if_neg hi]⟩
theorem tab_store (v : Value) (hv : ev n = v) (W : World) (hW : W = S (w.drewN m)) (h : (execOp b.eval o).run P (w.drewN m) = .ok .skip W) (hu : v = undef) : o.wp P b (w.drewN m) (TabPost w ev S n n b o.dst) NoQ := by
  unfold Oper.wp; rw [h]; exact ⟨by rw [hv, hu], m, by rw [if_pos rfl]; exact hW⟩
theorem tab_call (hi : i ≠ n) (v : Value) (hv : ev i = v) {f : FuncId} {args : Array Value} (h : (execOp b.eval o).run P (w.drewN m) = .ok (.enter f args) (w.drewN m)) (hc : Calls P f args (w.drewN m) fun e w' => ∃ q, e = .returned v ∧ w' = (w.drewN m).drewN q) : o.wp P b (w.drewN m) (TabPost w ev S n i b o.dst) NoQ := by
  unfold Oper.wp; rw [h]
  simp only [Oper.upon]
  refine hc.mono ?_
  rintro e w' ⟨q, rfl, rfl⟩
  exact ⟨by rw [hv], m + q, by rw [if_neg hi]; simp [World.drewN, Nat.add_assoc]⟩
end
end Go.Proofs.YtbkgpfalljgdcaaGreatDoor
