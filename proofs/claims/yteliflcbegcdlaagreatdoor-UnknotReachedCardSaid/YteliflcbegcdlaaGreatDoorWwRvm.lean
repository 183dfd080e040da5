/- unknot.neighbors: one try. -/
/- unknot.neighbors: the iterator. -/
/- unknot.neighbors: the iterator's walk. -/
/- unknot.neighbors: what its iterator tells. -/
/- package unknot: the search's state in memory. -/
/- package unknot: a region that draws its order and makes an entry in each of two maps. -/
/- package unknot: search.next. -/
/- slices.Reverse at a list of slices. -/
import Derived.Test.YteliflcbegcdlaaGreatDoorWwMrk
import Derived.Test.YteliflcbegcdlaaGreatDoorWwFmb
import Derived.Test.YteliflcbegcdlaaGreatDoorWwRtr
import Derived.Shelf.Abstract
import Derived.Shelf.RegionOpen
import Derived.WalkKit
import Derived.OwnWalkIn
import Derived.TacticsInMore
import Derived.LoopNIn
import Derived.LoopIn
import Derived.Test.YteliflcbegcdlaaGreatDoorWwGcol
import Derived.Test.YteliflcbegcdlaaGreatDoorWwGrf
import Derived.BigRegion
namespace Go.Proofs.YteliflcbegcdlaaGreatDoor
open Go.RowKit Go.Shelf
set_option linter.unusedVariables false
attribute [local go_sem] Oper.semAt_some
/-- what a try ends with: tt: what holds after a round that goes on, xx: after one that ends -/
def TryR (g : Gd) (ms : List Mv) (W : World) (tt : World → World → Prop) (xx : World → Prop) (e : Ending) (W' : World) : Prop :=
  (tryM g ms = [] ∧ e = .returned (.bool true) ∧ Below W.heap.size W W') ∨
  (∃ g', tryM g ms = [(ms, g')] ∧ ((e = .returned (.bool true) ∧ ∃ W1, Below W.heap.size W W1 ∧ tt W1 W') ∨ (e = .returned (.bool false) ∧ xx W')))
set_option maxHeartbeats 4000000 in
set_option maxRecDepth 100000 in
theorem try_in (n l : Nat) (hn : 2 ≤ n) (gB gY : Nat) (A B : Option Addr) (nx c no d : Nat) (vm : Value) (ms : List Mv) (g : Gd) (W : World) (hB : Arr W gB 24 [.slice A nx c, .slice B no d]) (tY : TypeId) (hY : Arr W gY tY [.func (.yield l) #[] #[]])
    (hX : Ints W (.slice A nx c) g.1) (hO : Ints W (.slice B no d) g.2) (hv : Vd g.1 g.2) (hm : Moves W vm ms) (hms : ms.length ≤ 2) (tt : World → World → Prop) (xx : World → Prop)
    (hR : ∀ g' u W1, tryM g ms = [(ms, g')] → Below W.heap.size W W1 → GdI W1 u g' → YieldAt Fence.wide (n - 1) Tryz.prog l #[vm, u] W1 fun e W' => (e = .returned (.bool true) ∧ tt W1 W') ∨ (e = .returned (.bool false) ∧ xx W')) :
    CallsIn Fence.wide n Tryz.prog 48 #[vm, .pointer (some ⟨gB, 0, none⟩), .pointer (some ⟨gY, 0, none⟩)] W (TryR g ms W tt xx) := by
  obtain ⟨X, O⟩ := g
  dsimp only at hX hO hv
  have h40 := hv.most
  have hle := hv.len
  have HPL := Lib.hid (play_any (.slice A nx c) (.slice B no d) vm X O ms W hX hO hm (by omega) (by omega) (by omega))
  obtain ⟨r, hr⟩ : ∃ r, r = playM X O ms := ⟨_, rfl⟩
  rw [← hr] at HPL
  have HQB := Lib.hid (fun W' (hb : Below W.heap.size W W') => hB.below hb hB.lt)
  have HQY := Lib.hid (fun W' (hb : Below W.heap.size W W') => hY.below hb hY.lt)
  have HRR := Lib.hid hR
  have HTM := Lib.hid (show tryM (X, O) ms = if r.2.2.2 < 0 ∧ r.1 = 0 then [(ms, r.2.1, r.2.2.1)] else [] by unfold tryM; rw [hr])
  have y0 := hB.cell 0
  have y1 := hB.cell 1
  clear hX hO hv hm hR hr hB hY
  refine callsIn_of_wp Tryz.func48 rfl trivial ?_ rfl
  simp only [Tryz.ntmps48, List.size_toArray, List.length_cons, List.length_nil, Nat.reduceAdd, Nat.reduceSub, Array.replicate_succ, Array.replicate_zero, List.push_toArray, List.append_toArray, List.nil_append, List.cons_append]
  gi_wp2_with fail
  refine ⟨trivial, (fun h => by cases h), ((callsIn_wide (n := n - 1)).2 HPL.out).mono ?_⟩
  rintro e W4 ⟨hb4, A0, n0, c0, A1, n1, c1, rfl, i0, i1⟩
  have hal := (Below.refl W4.heap.size W4).alloc (Nat.le_refl _) (.cells #[.slice A0 n0 c0, .slice A1 n1 c1] 24)
  have HQ5 := Lib.hid (show Arr (W4.alloc (.cells #[.slice A0 n0 c0, .slice A1 n1 c1] 24)) W4.heap.size 24 [.slice A0 n0 c0, .slice A1 n1 c1] from Arr.new W4 _ [_, _])
  have HB5 := Lib.hid (hb4.trans (hal.mono hb4.size))
  have HI5 := Lib.hid (show GdI (W4.alloc (.cells #[.slice A0 n0 c0, .slice A1 n1 c1] 24)) (.agg #[.slice A0 n0 c0, .slice A1 n1 c1]) (r.2.1, r.2.2.1) from ⟨A0, n0, c0, A1, n1, c1, rfl, i0.below hal, i1.below hal⟩)
  clear hb4 hal i0 i1 y0 y1 HPL
  obtain ⟨at_, hat⟩ : ∃ x, x = r.2.2.2 := ⟨_, rfl⟩
  obtain ⟨er, her⟩ : ∃ x, x = r.1 := ⟨_, rfl⟩
  rw [← hat, ← her] at HTM ⊢
  obtain ⟨g', hg'⟩ : ∃ x : Gd, x = (r.2.1, r.2.2.1) := ⟨_, rfl⟩
  rw [← hg'] at HI5
  rw [show [(ms, r.2.1, r.2.2.1)] = [(ms, g')] by rw [hg']] at HTM
  clear hat her hg'
  by_cases h1 : at_ ≥ 0
  · have HT := Lib.hid (show tryM (X, O) ms = [] by rw [HTM.out, if_neg (by omega)])
    gi_wp2
    refine ⟨(fun f h => by cases h), ?_⟩
    gi_wp2
    go_ret
    exact .inl ⟨HT.out, rfl, HB5.out⟩
  by_cases h2 : er = 0
  · have z2 : (er != 0) = false := by simp [h2]
    have HT := Lib.hid (show tryM (X, O) ms = [(ms, g')] by rw [HTM.out, if_pos ⟨by omega, h2⟩])
    have y2 := (HQY.out _ HB5.out).cell 0
    have y3 := HQ5.out.cell 0
    have y4 := HQ5.out.cell 1
    obtain ⟨fn, tmps, assign, body, hy, hRd⟩ := HRR.out g' _ _ HT.out HB5.out HI5.out
    clear h2
    gi_wp2
    refine ⟨(fun h => by cases h), hRd.mono ?_⟩
    rintro e W6 (⟨rfl, h6⟩ | ⟨rfl, h6⟩)
    · have H6 := Lib.hid h6
      clear h6
      gi_wp2
      go_ret
      exact .inr ⟨g', HT.out, .inl ⟨rfl, _, HB5.out, H6.out⟩⟩
    · have H6 := Lib.hid h6
      clear h6
      gi_wp2
      go_ret
      exact .inr ⟨g', HT.out, .inr ⟨by have hz : decide (0 ≤ at_) = false := decide_eq_false (by omega); simp only [hz]; rfl, H6.out⟩⟩
  · have z2 : (er != 0) = true := by simp [h2]
    have HT := Lib.hid (show tryM (X, O) ms = [] by rw [HTM.out, if_neg (fun h => h2 h.2)])
    clear h2
    gi_wp2
    refine ⟨(fun f h => by cases h), ?_⟩
    gi_wp2
    go_ret
    exact .inl ⟨HT.out, rfl, HB5.out⟩
end Go.Proofs.YteliflcbegcdlaaGreatDoor

namespace Go.Proofs.YteliflcbegcdlaaGreatDoor
open Go.RowKit Go.Shelf
set_option linter.unusedVariables false
/-- what a round keeps: the box gB; integers, moves, functions -/
def KqT (t : TypeId) : Prop := t = 3 ∨ t = 94 ∨ t = 89
def Kq (l gB : Nat) (A B : World) : Prop :=
  A.heap.size ≤ B.heap.size ∧ (∀ b, b < A.heap.size → (b = gB ∨ (b ≠ l ∧ ∃ cs t fr, A.heap[b]? = some (.cells cs t fr) ∧ KqT t)) → B.heap[b]? = A.heap[b]?) ∧ ∀ v xs, Ints A v xs → Ints B v xs
theorem Kq.of_below {l gB : Nat} {A B : World} (h : Below A.heap.size A B) : Kq l gB A B := ⟨h.size, fun b hb _ => h.block b hb, fun _ _ k => k.below h⟩
theorem Kq.trans {l gB : Nat} {A B C : World} (h : Kq l gB A B) (k : Kq l gB B C) : Kq l gB A C :=
  ⟨Nat.le_trans h.1 k.1, fun b hb hc => (k.2.1 b (Nat.lt_of_lt_of_le hb h.1) (by
    rcases hc with hc | ⟨hn, cs, t, fr, hc, ht⟩
    · exact .inl hc
    · exact .inr ⟨hn, cs, t, fr, by rw [h.2.1 b hb (.inr ⟨hn, cs, t, fr, hc, ht⟩)]; exact hc, ht⟩)).trans (h.2.1 b hb hc), fun v xs hx => k.2.2 v xs (h.2.2 v xs hx)⟩
theorem cell_put {A : World} {l b i : Nat} {o : Obj} {v : Value} (h : Lp l A) (k : A.cell? ⟨b, i, none⟩ = some v) : (A.putObj l o).cell? ⟨b, i, none⟩ = some v :=
  (World.cell?_of_block (World.putObj_heap_other (h.ne k))).trans k
theorem Ints.put {A : World} {l : Nat} {o : Obj} {v : Value} {xs : List Int} (h : Lp l A) (k : Ints A v xs) : Ints (A.putObj l o) v xs := by
  obtain ⟨A0, c, e, hc, hx⟩ := k
  refine ⟨A0, c, e, hc, fun j x hj => ?_⟩
  obtain ⟨b, off, e1, hcell⟩ := hx j x hj
  exact ⟨b, off, e1, cell_put h hcell⟩
theorem Kq.put {l gB : Nat} (hl : l ≠ gB) (A : World) (o : Obj) (h : Lp l A) : Kq l gB A (A.putObj l o) :=
  ⟨by rw [World.putObj_size]; exact Nat.le_refl _, fun b _ hc => World.putObj_heap_other (by rcases hc with rfl | hc; exact fun e => hl e.symm; exact hc.1), fun _ _ k => k.put h⟩
theorem Kq.arr {l gB : Nat} {A B : World} (h : Kq l gB A B) {b : Nat} {t : TypeId} {cs : List Value} (ha : Arr A b t cs) (hb : b = gB ∨ (b ≠ l ∧ KqT t)) : Arr B b t cs :=
  (h.2.1 b ha.lt (hb.elim .inl fun e => .inr ⟨e.1, _, _, _, ha, e.2⟩)).trans ha
/-- a slice of integers -/
def IntR (l : Nat) (w : World) (v : Value) (xs : List Int) : Prop := Ints w v xs ∧ True
theorem IntR.kq {l gB : Nat} {A B : World} {v : Value} {xs : List Int} (h : IntR l A v xs) (k : Kq l gB A B) : IntR l B v xs := ⟨k.2.2 _ _ h.1, trivial⟩
/-- what the iterator holds, pre having been handed over -/
structure NbS (l base gB gY : Nat) (vX vO : Value) (tY : TypeId) (g : Gd) (J : Nat → World → Prop) (pre : List (List Mv × Gd)) (wr : World) : Prop where
  box : Arr wr gB 24 [vX, vO]
  yb : Arr wr gY tY [.func (.yield l) #[] #[]]
  iX : IntR l wr vX g.1
  iO : IntR l wr vO g.2
  j : J pre.length wr
  suf : ∃ suf, nbrs g = pre ++ suf
section
variable {l base gB gY : Nat} {vX vO : Value} {tY : TypeId} {g : Gd} {J : Nat → World → Prop} {pre : List (List Mv × Gd)} {wr w' : World}
theorem NbS.below (hJ : ∀ k A B, J k A → Below A.heap.size A B → J k B) (h : NbS l base gB gY vX vO tY g J pre wr) (hb : Below wr.heap.size wr w') : NbS l base gB gY vX vO tY g J pre w' :=
  ⟨h.box.below hb h.box.lt, h.yb.below hb h.yb.lt, h.iX.kq (gB := gB) (Kq.of_below hb), h.iO.kq (gB := gB) (Kq.of_below hb), hJ _ _ _ h.j hb, h.suf⟩
end
/-- what is told of the k-th pair -/
def NbRd (g : Gd) (k : Nat) (v u : Value) (W : World) : Prop := ∃ ms g', (nbrs g)[k]? = some (ms, g') ∧ Moves W v ms ∧ GdI W u g'
/-- a try, as the iterator calls it -/
theorem try_any (n l base gB gY : Nat) (hn : 2 ≤ n) (A B : Option Addr) (nx c no d : Nat) (vm : Value) (ms : List Mv) (g : Gd) (W : World) (J : Nat → World → Prop) (Jx : World → Prop) (pre : List (List Mv × Gd))
    (hJ : ∀ k A B, J k A → Below A.heap.size A B → J k B)
    (hst : NbS l base gB gY (.slice A nx c) (.slice B no d) 89 g J pre W) (hgY : gY ≠ l) (hv : Vd g.1 g.2) (hm : Moves W vm ms) (hms : ms.length ≤ 2) (hsuf : ∃ suf, nbrs g = pre ++ tryM g ms ++ suf)
    (hR : ∀ k v u W1, k < (nbrs g).length → J k W1 → NbRd g k v u W1 → YieldAt Fence.wide (n - 1) Tryz.prog l #[v, u] W1 fun e W' =>
      (e = .returned (.bool true) ∧ J (k + 1) W' ∧ Kq l gB W1 W') ∨ (e = .returned (.bool false) ∧ Jx W')) :
    Calls Tryz.prog 48 #[vm, .pointer (some ⟨gB, 0, none⟩), .pointer (some ⟨gY, 0, none⟩)] W fun e W' =>
      (e = .returned (.bool true) ∧ NbS l base gB gY (.slice A nx c) (.slice B no d) 89 g J (pre ++ tryM g ms) W' ∧ Kq l gB W W') ∨ (e = .returned (.bool false) ∧ Jx W') := by
  obtain ⟨suf, hs⟩ := hsuf
  refine ((callsIn_wide (n := n)).1 (try_in n l hn gB gY A B nx c no d vm ms g W hst.box _ hst.yb hst.iX.1 hst.iO.1 hv hm hms (fun W1 W' => J (pre.length + 1) W' ∧ Kq l gB W1 W') Jx fun g' u W1 ht hb hg => ?_)).mono ?_
  · rw [ht] at hs
    have hk : (nbrs g)[pre.length]? = some (ms, g') := by rw [hs]; simp
    exact hR pre.length vm u W1 (List.getElem?_eq_some_iff.1 hk).1 (hJ _ _ _ hst.j hb) ⟨ms, g', hk, hm.below hb, hg⟩
  · rintro e W' (⟨ht, rfl, hb⟩ | ⟨g', ht, (⟨rfl, W1, hb, hj, hk⟩ | ⟨rfl, hx⟩)⟩)
    · refine .inl ⟨rfl, ?_, Kq.of_below hb⟩
      rw [ht, List.append_nil]
      exact hst.below hJ hb
    · have kq := (Kq.of_below (l := l) (gB := gB) hb).trans hk
      refine .inl ⟨rfl, ⟨kq.arr hst.box (.inl rfl), kq.arr hst.yb (.inr ⟨hgY, .inr (.inr rfl)⟩), hst.iX.kq kq, hst.iO.kq kq, ?_, ⟨suf, hs⟩⟩, kq⟩
      rw [ht, List.length_append]; exact hj
    · exact .inr ⟨rfl, hx⟩
end Go.Proofs.YteliflcbegcdlaaGreatDoor

namespace Go.Proofs.YteliflcbegcdlaaGreatDoor
open Go.RowKit Go.Shelf
set_option linter.unusedVariables false
theorem nb1_succ (g : Gd) (r : Bool) (k : Nat) : nb1 g r (k + 1) = nb1 g r k ++ tryM g (rmL g r k) := by
  unfold nb1; rw [List.range_succ, List.flatMap_append]; simp
theorem nb2_succ (g : Gd) (r : Bool) (k : Nat) : nb2 g r (k + 1) = nb2 g r k ++ tryM g [coM r (k : Int)] := by
  unfold nb2; rw [List.range_succ, List.flatMap_append]; simp
theorem nb1_suf (g : Gd) (r : Bool) (i : Nat) : ∀ d, ∃ s, nb1 g r (i + d) = nb1 g r i ++ s
  | 0 => ⟨[], by simp⟩
  | d + 1 => by
    obtain ⟨s, e⟩ := nb1_suf g r i d
    exact ⟨s ++ tryM g (rmL g r (i + d)), by rw [← Nat.add_assoc, nb1_succ, e, List.append_assoc]⟩
theorem nb2_suf (g : Gd) (r : Bool) (i : Nat) : ∀ d, ∃ s, nb2 g r (i + d) = nb2 g r i ++ s
  | 0 => ⟨[], by simp⟩
  | d + 1 => by
    obtain ⟨s, e⟩ := nb2_suf g r i d
    exact ⟨s ++ tryM g [coM r ((i + d : Nat) : Int)], by rw [← Nat.add_assoc, nb2_succ, e, List.append_assoc]⟩
def prQ (g : Gd) (q : Nat) : List (List Mv × Gd) := if q = 0 then [] else if q = 1 then nbR g false else nbrs g
theorem prQ_suf {g : Gd} {q : Nat} {r : Bool} (h : q = 0 ∧ r = false ∨ q = 1 ∧ r = true) : ∃ suf, nbrs g = prQ g q ++ nbR g r ++ suf ∧ prQ g (q + 1) = prQ g q ++ nbR g r := by
  rcases h with ⟨rfl, rfl⟩ | ⟨rfl, rfl⟩
  · exact ⟨nbR g true, by simp [prQ, nbrs], by simp [prQ]⟩
  · exact ⟨[], by simp [prQ, nbrs], by simp [prQ, nbrs]⟩
theorem suf1 {g : Gd} {q : Nat} {r : Bool} (h : q = 0 ∧ r = false ∨ q = 1 ∧ r = true) {i : Nat} (hi : i < g.1.length) : ∃ suf, nbrs g = (prQ g q ++ nb1 g r i) ++ tryM g (rmL g r i) ++ suf := by
  obtain ⟨s, e, -⟩ := prQ_suf (g := g) h
  obtain ⟨s2, e2⟩ := nb1_suf g r (i + 1) (g.1.length - (i + 1))
  rw [show i + 1 + (g.1.length - (i + 1)) = g.1.length by omega, nb1_succ] at e2
  refine ⟨s2 ++ nb2 g r (g.1.length - 1) ++ nb3 g r ++ s, ?_⟩
  rw [e]; unfold nbR; rw [e2]; simp only [List.append_assoc]
theorem suf2 {g : Gd} {q : Nat} {r : Bool} (h : q = 0 ∧ r = false ∨ q = 1 ∧ r = true) {i : Nat} (hi : i < g.1.length - 1) : ∃ suf, nbrs g = (prQ g q ++ nb1 g r g.1.length ++ nb2 g r i) ++ tryM g [coM r (i : Int)] ++ suf := by
  obtain ⟨s, e, -⟩ := prQ_suf (g := g) h
  obtain ⟨s2, e2⟩ := nb2_suf g r (i + 1) (g.1.length - 1 - (i + 1))
  rw [show i + 1 + (g.1.length - 1 - (i + 1)) = g.1.length - 1 by omega, nb2_succ] at e2
  refine ⟨s2 ++ nb3 g r ++ s, ?_⟩
  rw [e]; unfold nbR; rw [e2]; simp only [List.append_assoc]
theorem suf3 {g : Gd} {q : Nat} {r : Bool} (h : q = 0 ∧ r = false ∨ q = 1 ∧ r = true) : ∃ suf, nbrs g = (prQ g q ++ nb1 g r g.1.length ++ nb2 g r (g.1.length - 1)) ++ tryM g [tuM r, coM r ((g.1.length : Int) - 2)] ++ suf := by
  obtain ⟨s, e, -⟩ := prQ_suf (g := g) h
  refine ⟨s, ?_⟩
  rw [e]; unfold nbR nb3; simp only [List.append_assoc]
theorem moves1 {w : World} {b : Nat} {t : TypeId} {k a v : Int} {r : Bool} (h : Arr w b t [.int .i64 k, .bool r, .int .i64 a, .int .i64 v]) (c : Nat) : Moves w (.slice (some ⟨b, 0, none⟩) 1 c) [⟨k, r, a, v⟩] := by
  refine ⟨_, _, rfl, fun j hj => ⟨b, 0, rfl, fun i u hu => ?_⟩⟩
  obtain rfl : j = 0 := by simpa using hj
  rw [show 0 + 0 * 4 + i = i by omega, h.cell i]
  exact hu
theorem moves2 {w : World} {b : Nat} {t : TypeId} {k a v k' a' v' : Int} {r r' : Bool} (h : Arr w b t [.int .i64 k, .bool r, .int .i64 a, .int .i64 v, .int .i64 k', .bool r', .int .i64 a', .int .i64 v']) (c : Nat) : Moves w (.slice (some ⟨b, 0, none⟩) 2 c) [⟨k, r, a, v⟩, ⟨k', r', a', v'⟩] := by
  refine ⟨_, _, rfl, fun j hj => ⟨b, 0, rfl, fun i u hu => ?_⟩⟩
  rw [h.cell]
  have hi : i < 4 := by
    have := (List.getElem?_eq_some_iff.1 hu).1
    simpa [Mv.cells] using this
  rcases (by simp at hj; omega : j = 0 ∨ j = 1) with rfl | rfl
  · rcases (by omega : i = 0 ∨ i = 1 ∨ i = 2 ∨ i = 3) with rfl | rfl | rfl | rfl <;> simpa [Mv.cells] using hu
  · rcases (by omega : i = 0 ∨ i = 1 ∨ i = 2 ∨ i = 3) with rfl | rfl | rfl | rfl <;> simpa [Mv.cells] using hu
/-- what Apply leaves, in form -/
theorem GRes.form {B : Nat} {w : World} {r : Int × List Int × List Int} {e : Ending} {w' : World} (h : GRes B w r e w') : Below B w w' ∧ ∃ A0 n0 c0 A1 n1 c1, e = .returned (.tuple #[.agg #[.slice A0 n0 c0, .slice A1 n1 c1], .int .i64 r.1]) := by
  obtain ⟨hb, v, he, hv⟩ := h
  refine ⟨hb, ?_⟩
  split at hv
  · obtain ⟨gx, go, rfl, _⟩ := hv
    exact ⟨_, _, _, _, _, _, he⟩
  · subst hv
    exact ⟨_, _, _, _, _, _, he⟩
set_option maxHeartbeats 16000000 in
set_option maxRecDepth 100000 in
theorem nb_any (n l gB : Nat) (hn : 2 ≤ n) (A B : Option Addr) (nx c no d : Nat) (g : Gd) (W : World) (J : Nat → World → Prop) (Jx : World → Prop)
    (hJ : ∀ k A B, J k A → Below A.heap.size A B → J k B) (hv : Vd g.1 g.2)
    (hl : l < W.heap.size) (hB : Arr W gB 24 [.slice A nx c, .slice B no d]) (iX : IntR l W (.slice A nx c) g.1) (iO : IntR l W (.slice B no d) g.2) (h0 : J 0 W)
    (hR : ∀ k v u W1, k < (nbrs g).length → J k W1 → NbRd g k v u W1 → YieldAt Fence.wide (n - 1) Tryz.prog l #[v, u] W1 fun e W' =>
      (e = .returned (.bool true) ∧ J (k + 1) W' ∧ Kq l gB W1 W') ∨ (e = .returned (.bool false) ∧ Jx W')) :
    Calls Tryz.prog 47 #[.func (.yield l) #[] #[], .pointer (some ⟨gB, 0, none⟩)] W fun e W' => (∃ v, e = .returned v) ∧ (J (nbrs g).length W' ∨ Jx W') := by
  obtain ⟨base, hbase⟩ : ∃ b, b = W.heap.size := ⟨_, rfl⟩
  have HLL := Lib.hid (show l < base by rw [hbase]; exact hl)
  have hlb : base ≠ l := by have := HLL.out; omega
  have hal := (Below.refl W.heap.size W).alloc (Nat.le_refl _) (.cells #[.func (.yield l) #[] #[]] 89)
  have HN0 := Lib.hid (show NbS l base gB base (.slice A nx c) (.slice B no d) 89 g J (prQ g 0) (W.alloc (.cells #[.func (.yield l) #[] #[]] 89)) from
    ⟨hB.below hal hB.lt, by rw [hbase]; exact Arr.new W _ [_], iX.kq (gB := gB) (Kq.of_below hal), iO.kq (gB := gB) (Kq.of_below hal), hJ _ _ _ h0 hal, ⟨nbrs g, rfl⟩⟩)
  have h40 := hv.most
  have h2 := hv.two
  have hle := hv.len
  obtain ⟨N, hN⟩ : ∃ N, N = g.1.length := ⟨_, rfl⟩
  have hnx : nx = N := by obtain ⟨⟨A0, c0, e, _⟩, _⟩ := iX; injection e with _ e _; rw [e, hN]
  subst hnx
  have HNG := Lib.hid hN
  rw [← hN] at h40 h2
  have HTRY := Lib.hid (fun (W' : World) (pre : List (List Mv × Gd)) (vm : Value) (ms : List Mv) (hst : NbS l base gB base (.slice A nx c) (.slice B no d) 89 g J pre W') (hm : Moves W' vm ms) (hms : ms.length ≤ 2) (hsuf : ∃ suf, nbrs g = pre ++ tryM g ms ++ suf) =>
    try_any n l base gB base hn A B nx c no d vm ms g W' J Jx pre hJ hst hlb hv hm hms hsuf hR)
  have HAPP := Lib.hid (fun (W' : World) (pre : List (List Mv × Gd)) (r : Bool) (i : Nat) (hst : NbS l base gB base (.slice A nx c) (.slice B no d) 89 g J pre W') =>
    (apply_any (.slice A nx c) (.slice B no d) g.1 g.2 3 r (i : Int) 0 W' hst.iX.1 hst.iO.1 (by omega) (by omega)).mono fun e w' h => h.form)
  have HJ := Lib.hid hJ
  have HLB := Lib.hid (show base ≤ (W.alloc (.cells #[.func (.yield l) #[] #[]] 89)).heap.size by rw [hbase]; simp)
  clear hal hB iX iO h0 hR hv hle hN hJ hl hlb
  go_enter Tryz.func47, Tryz.ntmps47
  go_upto_region 2 with fail
  obtain ⟨w1, hw1⟩ : ∃ W', W' = W.alloc (.cells #[.func (.yield l) #[] #[]] 89) := ⟨_, rfl⟩
  rw [← hw1] at HN0 HLB ⊢
  rw [← hbase]
  clear hw1 hbase
  have y0 := HN0.out.box.cell 0
  go_upto_region 4 with fail
  clear y0
  go_loopg [6, 7, 8, 9, 10, 11, 12, 13, 14, 20] 2 (fun gk s6 s7 s8 s9 s10 s11 s12 s13 s14 s20 wr => ∃ q : Nat, q ≤ 2 ∧ gk = 2 - q ∧ s20 = .int .i64 (q : Int) ∧ NbS l base gB base (.slice A nx c) (.slice B no d) 89 g J (prQ g q) wr ∧ base ≤ wr.heap.size)
  case atStart => exact ⟨0, by omega, rfl, rfl, HN0.out, HLB.out⟩
  case round =>
    clear HN0 HLB
    obtain ⟨q, hq, rfl, rfl, hst, hlb⟩ := hrel
    obtain ⟨wo, rfl⟩ : ∃ wo : World, wo = wr := ⟨_, rfl⟩
    have HST := Lib.hid hst
    have HLB := Lib.hid hlb
    clear hst hlb
    rcases (by omega : q = 0 ∨ q = 1 ∨ q = 2) with rfl | rfl | rfl
    · have hidx : ∀ W', Sem.run Tryz.prog (Instr.index 93 (Value.agg #[Value.bool false, Value.bool true]) (Value.int IntKind.i64 0)) W' = .ok (.bool false) W' := fun W' => by kernel_rfl
      have hal := ((Below.refl wo.heap.size wo).alloc (Nat.le_refl _) (.cells #[.int .i64 1, .bool false, .int .i64 0, .int .i64 0] 94)).alloc (by simp) (.cells #[.int .i64 1, .bool true, .int .i64 0, .int .i64 0] 94)
      have HS2 := Lib.hid (HST.out.below HJ.out hal)
      have HT2 := Lib.hid (show Arr ((wo.alloc (.cells #[.int .i64 1, .bool false, .int .i64 0, .int .i64 0] 94)).alloc (.cells #[.int .i64 1, .bool true, .int .i64 0, .int .i64 0] 94)) wo.heap.size 94 [.int .i64 1, .bool false, .int .i64 0, .int .i64 0] from (Arr.new wo _ [_, _, _, _]).alloc _)
      have HA2 := Lib.hid (show Arr ((wo.alloc (.cells #[.int .i64 1, .bool false, .int .i64 0, .int .i64 0] 94)).alloc (.cells #[.int .i64 1, .bool true, .int .i64 0, .int .i64 0] 94)) (wo.heap.size + 1) 94 [.int .i64 1, .bool true, .int .i64 0, .int .i64 0] from Arr.newAt (wo.alloc _) _ [_, _, _, _] _ (by simp))
      have HL2 := Lib.hid (show base ≤ ((wo.alloc (.cells #[.int .i64 1, .bool false, .int .i64 0, .int .i64 0] 94)).alloc (.cells #[.int .i64 1, .bool true, .int .i64 0, .int .i64 0] 94)).heap.size by have := HLB.out; simp; omega)
      clear hal
      go_upto_region 8 with fail
      clear hidx
      obtain ⟨w2, hw2⟩ : ∃ W', W' = (wo.alloc (.cells #[.int .i64 1, .bool false, .int .i64 0, .int .i64 0] 94)).alloc (.cells #[.int .i64 1, .bool true, .int .i64 0, .int .i64 0] 94) := ⟨_, rfl⟩
      rw [← hw2] at HS2 HT2 HA2 HL2 ⊢
      obtain ⟨gT, hgT⟩ : ∃ x, x = wo.heap.size := ⟨_, rfl⟩
      rw [← hgT] at HT2 HA2 HLB ⊢
      clear hw2 hgT HST
      go_upto_region 9 with fail
      go_loopg [9, 10, 11, 12, 13, 29] nx (fun gk s9 s10 s11 s12 s13 s29 wr => ∃ i : Nat, i ≤ nx ∧ gk = nx - i ∧ s29 = .int .i64 (i : Int) ∧ NbS l base gB base (.slice A nx c) (.slice B no d) 89 g J (prQ g 0 ++ nb1 g false i) wr ∧ Arr wr gT 94 [.int .i64 1, .bool false, .int .i64 0, .int .i64 0] ∧ Arr wr (gT + 1) 94 [.int .i64 1, .bool true, .int .i64 0, .int .i64 0] ∧ base ≤ wr.heap.size)
      case atStart => exact ⟨0, by omega, rfl, rfl, by rw [show nb1 g false 0 = [] from rfl, List.append_nil]; exact HS2.out, HT2.out, HA2.out, HL2.out⟩
      case round =>
        clear HS2 HT2 HA2 HL2
        obtain ⟨ix, hi, rfl, rfl, hst, hT, hA, hlb⟩ := hrel
        obtain ⟨wi, rfl⟩ : ∃ wi : World, wi = wr := ⟨_, rfl⟩
        have HST := Lib.hid hst
        have HT3 := Lib.hid hT
        have HA3 := Lib.hid hA
        have HL3 := Lib.hid hlb
        clear hst hT hA hlb
        by_cases hit : ix < nx
        · have z1 : (ix : Int) < (nx : Int) := by omega
          have y0 := HST.out.box.cell 0
          have y1 := HST.out.box.cell 1
          have hal := ((Below.refl wi.heap.size wi).alloc (Nat.le_refl _) (.cells #[.int .i64 3, .bool false, .int .i64 (ix : Int), .int .i64 0] 94)).alloc (by simp) (.cells #[.int .i64 3, .bool false, .int .i64 (ix : Int), .int .i64 0] 94)
          have HS4 := Lib.hid (HST.out.below HJ.out hal)
          have HT4 := Lib.hid (HT3.out.below hal HT3.out.lt)
          have HA4 := Lib.hid (HA3.out.below hal HA3.out.lt)
          have HR4 := Lib.hid (show Arr ((wi.alloc (.cells #[.int .i64 3, .bool false, .int .i64 (ix : Int), .int .i64 0] 94)).alloc (.cells #[.int .i64 3, .bool false, .int .i64 (ix : Int), .int .i64 0] 94)) wi.heap.size 94 [.int .i64 3, .bool false, .int .i64 (ix : Int), .int .i64 0] from (Arr.new wi _ [_, _, _, _]).alloc _)
          have HM4 := Lib.hid (show Arr ((wi.alloc (.cells #[.int .i64 3, .bool false, .int .i64 (ix : Int), .int .i64 0] 94)).alloc (.cells #[.int .i64 3, .bool false, .int .i64 (ix : Int), .int .i64 0] 94)) (wi.heap.size + 1) 94 [.int .i64 3, .bool false, .int .i64 (ix : Int), .int .i64 0] from Arr.newAt (wi.alloc _) _ [_, _, _, _] _ (by simp))
          have HL4 := Lib.hid (show base ≤ ((wi.alloc (.cells #[.int .i64 3, .bool false, .int .i64 (ix : Int), .int .i64 0] 94)).alloc (.cells #[.int .i64 3, .bool false, .int .i64 (ix : Int), .int .i64 0] 94)).heap.size by have := HL3.out; simp; omega)
          have HBI := Lib.hid (show base ≤ wi.heap.size from HL3.out)
          clear hal y0 y1
          go_upto_region 13 with fail
          obtain ⟨w4, hw4⟩ : ∃ W', W' = (wi.alloc (.cells #[.int .i64 3, .bool false, .int .i64 (ix : Int), .int .i64 0] 94)).alloc (.cells #[.int .i64 3, .bool false, .int .i64 (ix : Int), .int .i64 0] 94) := ⟨_, rfl⟩
          rw [← hw4] at HS4 HT4 HA4 HR4 HM4 HL4 ⊢
          obtain ⟨gR, hgR⟩ : ∃ x, x = wi.heap.size := ⟨_, rfl⟩
          rw [← hgR] at HR4 HM4 HBI ⊢
          clear hw4 hgR HST HT3 HA3 HL3
          have y0 := HS4.out.box.cell 0
          have y1 := HS4.out.box.cell 1
          have x0 := HR4.out.cell 0
          have x1 := HR4.out.cell 1
          have x2 := HR4.out.cell 2
          have x3 := HR4.out.cell 3
          have HAC := Lib.hid (HAPP.out w4 _ false ix HS4.out)
          go_wp2_with fail
          refine HAC.out.mono ?_
          rintro e w5 ⟨hb5, A0, n0, c0, A1, n1, c1, rfl⟩
          have hal := hb5.trans (((Below.refl w5.heap.size w5).alloc (Nat.le_refl _) (.cells #[.slice A0 n0 c0, .slice A1 n1 c1] 24)).mono hb5.size)
          have HS6 := Lib.hid (HS4.out.below HJ.out hal)
          have HT6 := Lib.hid (HT4.out.below hal HT4.out.lt)
          have HA6 := Lib.hid (HA4.out.below hal HA4.out.lt)
          have HR6 := Lib.hid (HR4.out.below hal HR4.out.lt)
          have HM6 := Lib.hid (HM4.out.below hal HM4.out.lt)
          have HL6 := Lib.hid (Nat.le_trans HL4.out hal.size)
          have HRM := Lib.hid (show rmL g false ix = if (applyM g.1 g.2 3 false (ix : Int) 0).1 = 0 then [rmM false (ix : Int)] else [tuM true, rmM false (ix : Int)] from rfl)
          obtain ⟨er, her⟩ : ∃ x, x = (applyM g.1 g.2 3 false (ix : Int) 0).1 := ⟨_, rfl⟩
          rw [← her] at HRM ⊢
          clear her hb5 hal y0 y1 x0 x1 x2 x3 HAC HS4 HT4 HA4 HR4 HM4 HL4
          have HSF := Lib.hid (suf1 (g := g) (q := 0) (r := false) (by decide) (i := ix) (by rw [← HNG.out]; exact hit))
          by_cases h0 : er = 0
          · have z2 : (er != 0) = false := by simp [h0]
            have HRL := Lib.hid (show rmL g false ix = [⟨3, false, (ix : Int), 0⟩] by rw [HRM.out, if_pos h0]; rfl)
            have HTR := Lib.hid (by have h := HTRY.out _ _ (.slice (some ⟨gR + 1, 0, none⟩) 1 1) [⟨3, false, (ix : Int), 0⟩] HS6.out (moves1 HM6.out 1) (by simp) (by have := HSF.out; rw [HRL.out] at this; exact this); rw [← HRL.out, List.append_assoc, ← nb1_succ] at h; exact h)
            clear h0 HRM
            go_wp2_with fail
            refine HTR.out.mono ?_
            rintro e w7 (⟨rfl, hst7, hkq⟩ | ⟨rfl, hx⟩)
            · have HS7 := Lib.hid hst7
              have HT7 := Lib.hid (hkq.arr HT6.out (.inr ⟨fun e => by have := HLL.out; have := HLB.out; omega, .inr (.inl rfl)⟩))
              have HA7 := Lib.hid (hkq.arr HA6.out (.inr ⟨fun e => by have := HLL.out; have := HLB.out; omega, .inr (.inl rfl)⟩))
              have HL7 := Lib.hid (Nat.le_trans HL6.out hkq.1)
              clear hst7 hkq
              go_wp2_with fail
              go_roundg (nx - (ix + 1))
              case measure => omega
              case rel => exact ⟨ix + 1, by omega, rfl, by go_num, HS7.out, HT7.out, HA7.out, HL7.out⟩
            · have HX := Lib.hid hx
              clear hx
              go_wp2_with fail
              refine bodyPost_ret (results_none rfl _ _ _) rfl ?_
              exact ⟨⟨_, rfl⟩, .inr HX.out⟩
          · have z2 : (er != 0) = true := by simp [h0]
            have HRL := Lib.hid (show rmL g false ix = [⟨1, true, 0, 0⟩, ⟨3, false, (ix : Int), 0⟩] by rw [HRM.out, if_neg h0]; rfl)
            obtain ⟨w6, hw6⟩ : ∃ W', W' = w5.alloc (.cells #[.slice A0 n0 c0, .slice A1 n1 c1] 24) := ⟨_, rfl⟩
            have x0 := HR6.out.cell 0
            have x1 := HR6.out.cell 1
            have x2 := HR6.out.cell 2
            have x3 := HR6.out.cell 3
            have x4 := HA6.out.cell 0
            have x5 := HA6.out.cell 1
            have x6 := HA6.out.cell 2
            have x7 := HA6.out.cell 3
            clear h0 HRM
            go_upto_region 15 with fail
            rw [← hw6] at HS6 HT6 HA6 HR6 HL6 x0 x1 x2 x3 x4 x5 x6 x7 ⊢
            clear hw6 HM6
            have hal := (Below.refl w6.heap.size w6).alloc (Nat.le_refl _) (.cells #[.int .i64 1, .bool true, .int .i64 0, .int .i64 0, .int .i64 3, .bool false, .int .i64 (ix : Int), .int .i64 0] 94)
            have HTR := Lib.hid (by have h := HTRY.out _ _ (.slice (some ⟨w6.heap.size, 0, none⟩) 2 2) [⟨1, true, 0, 0⟩, ⟨3, false, (ix : Int), 0⟩] (HS6.out.below HJ.out hal) (moves2 (Arr.new w6 94 [.int .i64 1, .bool true, .int .i64 0, .int .i64 0, .int .i64 3, .bool false, .int .i64 (ix : Int), .int .i64 0]) 2) (by simp) (by have := HSF.out; rw [HRL.out] at this; exact this); rw [← HRL.out, List.append_assoc, ← nb1_succ] at h; exact h)
            have HT8 := Lib.hid (HT6.out.below hal HT6.out.lt)
            have HA8 := Lib.hid (HA6.out.below hal HA6.out.lt)
            have HL8 := Lib.hid (Nat.le_trans HL6.out hal.size)
            clear hal
            go_wp2_with fail
            refine HTR.out.mono ?_
            rintro e w7 (⟨rfl, hst7, hkq⟩ | ⟨rfl, hx⟩)
            · have HS7 := Lib.hid hst7
              have HT7 := Lib.hid (hkq.arr HT8.out (.inr ⟨fun e => by have := HLL.out; have := HLB.out; omega, .inr (.inl rfl)⟩))
              have HA7 := Lib.hid (hkq.arr HA8.out (.inr ⟨fun e => by have := HLL.out; have := HLB.out; omega, .inr (.inl rfl)⟩))
              have HL7 := Lib.hid (Nat.le_trans HL8.out hkq.1)
              clear hst7 hkq x0 x1 x2 x3 x4 x5 x6 x7
              go_wp2_with fail
              go_roundg (nx - (ix + 1))
              case measure => omega
              case rel => exact ⟨ix + 1, by omega, rfl, by go_num, HS7.out, HT7.out, HA7.out, HL7.out⟩
            · have HX := Lib.hid hx
              clear hx x0 x1 x2 x3 x4 x5 x6 x7
              go_wp2_with fail
              refine bodyPost_ret (results_none rfl _ _ _) rfl ?_
              exact ⟨⟨_, rfl⟩, .inr HX.out⟩
        · have z1 : ¬ (ix : Int) < (nx : Int) := by omega
          obtain rfl : ix = nx := by omega
          clear HA3
          go_upto_region 19 with fail
          go_loopg [14, 55] (ix - 1) (fun gk s14 s55 wr => ∃ k : Nat, k ≤ ix - 1 ∧ gk = ix - 1 - k ∧ s55 = .int .i64 (k : Int) ∧ NbS l base gB base (.slice A ix c) (.slice B no d) 89 g J (prQ g 0 ++ nb1 g false ix ++ nb2 g false k) wr ∧ Arr wr gT 94 [.int .i64 1, .bool false, .int .i64 0, .int .i64 0] ∧ base ≤ wr.heap.size)
          case atStart => exact ⟨0, by omega, rfl, rfl, by rw [show nb2 g false 0 = [] from rfl, List.append_nil]; exact HST.out, HT3.out, HL3.out⟩
          case round =>
            clear HST HT3 HL3
            obtain ⟨k, hk, rfl, rfl, hst, hT, hlb⟩ := hrel
            obtain ⟨wk, rfl⟩ : ∃ wk : World, wk = wr := ⟨_, rfl⟩
            have HST := Lib.hid hst
            have HT3 := Lib.hid hT
            have HL3 := Lib.hid hlb
            clear hst hT hlb
            by_cases hkt : k < ix - 1
            · have z2 : (k : Int) < (ix : Int) - 1 := by omega
              have hal := (Below.refl wk.heap.size wk).alloc (Nat.le_refl _) (.cells #[.int .i64 2, .bool false, .int .i64 (k : Int), .int .i64 0] 94)
              have HSF := Lib.hid (suf2 (g := g) (q := 0) (r := false) (by decide) (i := k) (by rw [← HNG.out]; exact hkt))
              have HTR := Lib.hid (by have h := HTRY.out _ _ (.slice (some ⟨wk.heap.size, 0, none⟩) 1 1) [coM false (k : Int)] (HST.out.below HJ.out hal) (moves1 (Arr.new wk 94 [.int .i64 2, .bool false, .int .i64 (k : Int), .int .i64 0]) 1) (by simp) (by have := HSF.out; rw [← HNG.out] at this; exact this); rw [List.append_assoc, ← nb2_succ] at h; exact h)
              have HT8 := Lib.hid (HT3.out.below hal HT3.out.lt)
              have HL8 := Lib.hid (Nat.le_trans HL3.out hal.size)
              clear hal
              go_wp2_with fail
              refine HTR.out.mono ?_
              rintro e w7 (⟨rfl, hst7, hkq⟩ | ⟨rfl, hx⟩)
              · have HS7 := Lib.hid hst7
                have HT7 := Lib.hid (hkq.arr HT8.out (.inr ⟨fun e => by have := HLL.out; have := HLB.out; omega, .inr (.inl rfl)⟩))
                have HL7 := Lib.hid (Nat.le_trans HL8.out hkq.1)
                clear hst7 hkq
                go_wp2_with fail
                go_roundg (ix - 1 - (k + 1))
                case measure => omega
                case rel => exact ⟨k + 1, by omega, rfl, by go_num, HS7.out, HT7.out, HL7.out⟩
              · have HX := Lib.hid hx
                clear hx
                go_wp2_with fail
                refine bodyPost_ret (results_none rfl _ _ _) rfl ?_
                exact ⟨⟨_, rfl⟩, .inr HX.out⟩
            · have z2 : ¬ (k : Int) < (ix : Int) - 1 := by omega
              obtain ⟨hke⟩ : Nonempty (k = ix - 1) := ⟨by omega⟩
              rw [hke] at HST
              have hal := (Below.refl wk.heap.size wk).alloc (Nat.le_refl _) (.cells #[.int .i64 1, .bool false, .int .i64 0, .int .i64 0, .int .i64 2, .bool false, .int .i64 ((ix : Int) - 2), .int .i64 0] 94)
              have HSF := Lib.hid (by have h := suf3 (g := g) (q := 0) (r := false) (by decide); rw [← HNG.out] at h; exact h)
              have HTR := Lib.hid (HTRY.out _ _ (.slice (some ⟨wk.heap.size, 0, none⟩) 2 2) [tuM false, coM false ((ix : Int) - 2)] (HST.out.below HJ.out hal) (moves2 (Arr.new wk 94 [.int .i64 1, .bool false, .int .i64 0, .int .i64 0, .int .i64 2, .bool false, .int .i64 ((ix : Int) - 2), .int .i64 0]) 2) (by simp) HSF.out)
              have HPE := Lib.hid (show prQ g (0 + 1) = prQ g 0 ++ nb1 g false ix ++ nb2 g false (ix - 1) ++ tryM g [tuM false, coM false ((ix : Int) - 2)] by
                obtain ⟨s, -, e⟩ := prQ_suf (g := g) (q := 0) (r := false) (by decide)
                rw [e]; unfold nbR nb3; rw [← HNG.out]; simp only [List.append_assoc])
              have HL8 := Lib.hid (Nat.le_trans HL3.out hal.size)
              have x0 := HT3.out.cell 0
              have x1 := HT3.out.cell 1
              have x2 := HT3.out.cell 2
              have x3 := HT3.out.cell 3
              clear hal hke
              go_wp2_with fail
              refine HTR.out.mono ?_
              rintro e w7 (⟨rfl, hst7, hkq⟩ | ⟨rfl, hx⟩)
              · have HS7 := Lib.hid hst7
                have HL7 := Lib.hid (Nat.le_trans HL8.out hkq.1)
                clear hst7 hkq x0 x1 x2 x3
                go_wp2_with fail
                go_roundg (2 - (0 + 1))
                case measure => omega
                case rel => exact ⟨0 + 1, by omega, rfl, by go_num, by rw [HPE.out]; exact HS7.out, HL7.out⟩
              · have HX := Lib.hid hx
                clear hx x0 x1 x2 x3
                go_wp2_with fail
                refine bodyPost_ret (results_none rfl _ _ _) rfl ?_
                exact ⟨⟨_, rfl⟩, .inr HX.out⟩
    · have hidx : ∀ W', Sem.run Tryz.prog (Instr.index 93 (Value.agg #[Value.bool false, Value.bool true]) (Value.int IntKind.i64 1)) W' = .ok (.bool true) W' := fun W' => by kernel_rfl
      have hal := ((Below.refl wo.heap.size wo).alloc (Nat.le_refl _) (.cells #[.int .i64 1, .bool true, .int .i64 0, .int .i64 0] 94)).alloc (by simp) (.cells #[.int .i64 1, .bool false, .int .i64 0, .int .i64 0] 94)
      have HS2 := Lib.hid (HST.out.below HJ.out hal)
      have HT2 := Lib.hid (show Arr ((wo.alloc (.cells #[.int .i64 1, .bool true, .int .i64 0, .int .i64 0] 94)).alloc (.cells #[.int .i64 1, .bool false, .int .i64 0, .int .i64 0] 94)) wo.heap.size 94 [.int .i64 1, .bool true, .int .i64 0, .int .i64 0] from (Arr.new wo _ [_, _, _, _]).alloc _)
      have HA2 := Lib.hid (show Arr ((wo.alloc (.cells #[.int .i64 1, .bool true, .int .i64 0, .int .i64 0] 94)).alloc (.cells #[.int .i64 1, .bool false, .int .i64 0, .int .i64 0] 94)) (wo.heap.size + 1) 94 [.int .i64 1, .bool false, .int .i64 0, .int .i64 0] from Arr.newAt (wo.alloc _) _ [_, _, _, _] _ (by simp))
      have HL2 := Lib.hid (show base ≤ ((wo.alloc (.cells #[.int .i64 1, .bool true, .int .i64 0, .int .i64 0] 94)).alloc (.cells #[.int .i64 1, .bool false, .int .i64 0, .int .i64 0] 94)).heap.size by have := HLB.out; simp; omega)
      clear hal
      go_upto_region 8 with fail
      clear hidx
      obtain ⟨w2, hw2⟩ : ∃ W', W' = (wo.alloc (.cells #[.int .i64 1, .bool true, .int .i64 0, .int .i64 0] 94)).alloc (.cells #[.int .i64 1, .bool false, .int .i64 0, .int .i64 0] 94) := ⟨_, rfl⟩
      rw [← hw2] at HS2 HT2 HA2 HL2 ⊢
      obtain ⟨gT, hgT⟩ : ∃ x, x = wo.heap.size := ⟨_, rfl⟩
      rw [← hgT] at HT2 HA2 HLB ⊢
      clear hw2 hgT HST
      go_upto_region 9 with fail
      go_loopg [9, 10, 11, 12, 13, 29] nx (fun gk s9 s10 s11 s12 s13 s29 wr => ∃ i : Nat, i ≤ nx ∧ gk = nx - i ∧ s29 = .int .i64 (i : Int) ∧ NbS l base gB base (.slice A nx c) (.slice B no d) 89 g J (prQ g 1 ++ nb1 g true i) wr ∧ Arr wr gT 94 [.int .i64 1, .bool true, .int .i64 0, .int .i64 0] ∧ Arr wr (gT + 1) 94 [.int .i64 1, .bool false, .int .i64 0, .int .i64 0] ∧ base ≤ wr.heap.size)
      case atStart => exact ⟨0, by omega, rfl, rfl, by rw [show nb1 g true 0 = [] from rfl, List.append_nil]; exact HS2.out, HT2.out, HA2.out, HL2.out⟩
      case round =>
        clear HS2 HT2 HA2 HL2
        obtain ⟨ix, hi, rfl, rfl, hst, hT, hA, hlb⟩ := hrel
        obtain ⟨wi, rfl⟩ : ∃ wi : World, wi = wr := ⟨_, rfl⟩
        have HST := Lib.hid hst
        have HT3 := Lib.hid hT
        have HA3 := Lib.hid hA
        have HL3 := Lib.hid hlb
        clear hst hT hA hlb
        by_cases hit : ix < nx
        · have z1 : (ix : Int) < (nx : Int) := by omega
          have y0 := HST.out.box.cell 0
          have y1 := HST.out.box.cell 1
          have hal := ((Below.refl wi.heap.size wi).alloc (Nat.le_refl _) (.cells #[.int .i64 3, .bool true, .int .i64 (ix : Int), .int .i64 0] 94)).alloc (by simp) (.cells #[.int .i64 3, .bool true, .int .i64 (ix : Int), .int .i64 0] 94)
          have HS4 := Lib.hid (HST.out.below HJ.out hal)
          have HT4 := Lib.hid (HT3.out.below hal HT3.out.lt)
          have HA4 := Lib.hid (HA3.out.below hal HA3.out.lt)
          have HR4 := Lib.hid (show Arr ((wi.alloc (.cells #[.int .i64 3, .bool true, .int .i64 (ix : Int), .int .i64 0] 94)).alloc (.cells #[.int .i64 3, .bool true, .int .i64 (ix : Int), .int .i64 0] 94)) wi.heap.size 94 [.int .i64 3, .bool true, .int .i64 (ix : Int), .int .i64 0] from (Arr.new wi _ [_, _, _, _]).alloc _)
          have HM4 := Lib.hid (show Arr ((wi.alloc (.cells #[.int .i64 3, .bool true, .int .i64 (ix : Int), .int .i64 0] 94)).alloc (.cells #[.int .i64 3, .bool true, .int .i64 (ix : Int), .int .i64 0] 94)) (wi.heap.size + 1) 94 [.int .i64 3, .bool true, .int .i64 (ix : Int), .int .i64 0] from Arr.newAt (wi.alloc _) _ [_, _, _, _] _ (by simp))
          have HL4 := Lib.hid (show base ≤ ((wi.alloc (.cells #[.int .i64 3, .bool true, .int .i64 (ix : Int), .int .i64 0] 94)).alloc (.cells #[.int .i64 3, .bool true, .int .i64 (ix : Int), .int .i64 0] 94)).heap.size by have := HL3.out; simp; omega)
          have HBI := Lib.hid (show base ≤ wi.heap.size from HL3.out)
          clear hal y0 y1
          go_upto_region 13 with fail
          obtain ⟨w4, hw4⟩ : ∃ W', W' = (wi.alloc (.cells #[.int .i64 3, .bool true, .int .i64 (ix : Int), .int .i64 0] 94)).alloc (.cells #[.int .i64 3, .bool true, .int .i64 (ix : Int), .int .i64 0] 94) := ⟨_, rfl⟩
          rw [← hw4] at HS4 HT4 HA4 HR4 HM4 HL4 ⊢
          obtain ⟨gR, hgR⟩ : ∃ x, x = wi.heap.size := ⟨_, rfl⟩
          rw [← hgR] at HR4 HM4 HBI ⊢
          clear hw4 hgR HST HT3 HA3 HL3
          have y0 := HS4.out.box.cell 0
          have y1 := HS4.out.box.cell 1
          have x0 := HR4.out.cell 0
          have x1 := HR4.out.cell 1
          have x2 := HR4.out.cell 2
          have x3 := HR4.out.cell 3
          have HAC := Lib.hid (HAPP.out w4 _ true ix HS4.out)
          go_wp2_with fail
          refine HAC.out.mono ?_
          rintro e w5 ⟨hb5, A0, n0, c0, A1, n1, c1, rfl⟩
          have hal := hb5.trans (((Below.refl w5.heap.size w5).alloc (Nat.le_refl _) (.cells #[.slice A0 n0 c0, .slice A1 n1 c1] 24)).mono hb5.size)
          have HS6 := Lib.hid (HS4.out.below HJ.out hal)
          have HT6 := Lib.hid (HT4.out.below hal HT4.out.lt)
          have HA6 := Lib.hid (HA4.out.below hal HA4.out.lt)
          have HR6 := Lib.hid (HR4.out.below hal HR4.out.lt)
          have HM6 := Lib.hid (HM4.out.below hal HM4.out.lt)
          have HL6 := Lib.hid (Nat.le_trans HL4.out hal.size)
          have HRM := Lib.hid (show rmL g true ix = if (applyM g.1 g.2 3 true (ix : Int) 0).1 = 0 then [rmM true (ix : Int)] else [tuM false, rmM true (ix : Int)] from rfl)
          obtain ⟨er, her⟩ : ∃ x, x = (applyM g.1 g.2 3 true (ix : Int) 0).1 := ⟨_, rfl⟩
          rw [← her] at HRM ⊢
          clear her hb5 hal y0 y1 x0 x1 x2 x3 HAC HS4 HT4 HA4 HR4 HM4 HL4
          have HSF := Lib.hid (suf1 (g := g) (q := 1) (r := true) (by decide) (i := ix) (by rw [← HNG.out]; exact hit))
          by_cases h0 : er = 0
          · have z2 : (er != 0) = false := by simp [h0]
            have HRL := Lib.hid (show rmL g true ix = [⟨3, true, (ix : Int), 0⟩] by rw [HRM.out, if_pos h0]; rfl)
            have HTR := Lib.hid (by have h := HTRY.out _ _ (.slice (some ⟨gR + 1, 0, none⟩) 1 1) [⟨3, true, (ix : Int), 0⟩] HS6.out (moves1 HM6.out 1) (by simp) (by have := HSF.out; rw [HRL.out] at this; exact this); rw [← HRL.out, List.append_assoc, ← nb1_succ] at h; exact h)
            clear h0 HRM
            go_wp2_with fail
            refine HTR.out.mono ?_
            rintro e w7 (⟨rfl, hst7, hkq⟩ | ⟨rfl, hx⟩)
            · have HS7 := Lib.hid hst7
              have HT7 := Lib.hid (hkq.arr HT6.out (.inr ⟨fun e => by have := HLL.out; have := HLB.out; omega, .inr (.inl rfl)⟩))
              have HA7 := Lib.hid (hkq.arr HA6.out (.inr ⟨fun e => by have := HLL.out; have := HLB.out; omega, .inr (.inl rfl)⟩))
              have HL7 := Lib.hid (Nat.le_trans HL6.out hkq.1)
              clear hst7 hkq
              go_wp2_with fail
              go_roundg (nx - (ix + 1))
              case measure => omega
              case rel => exact ⟨ix + 1, by omega, rfl, by go_num, HS7.out, HT7.out, HA7.out, HL7.out⟩
            · have HX := Lib.hid hx
              clear hx
              go_wp2_with fail
              refine bodyPost_ret (results_none rfl _ _ _) rfl ?_
              exact ⟨⟨_, rfl⟩, .inr HX.out⟩
          · have z2 : (er != 0) = true := by simp [h0]
            have HRL := Lib.hid (show rmL g true ix = [⟨1, false, 0, 0⟩, ⟨3, true, (ix : Int), 0⟩] by rw [HRM.out, if_neg h0]; rfl)
            obtain ⟨w6, hw6⟩ : ∃ W', W' = w5.alloc (.cells #[.slice A0 n0 c0, .slice A1 n1 c1] 24) := ⟨_, rfl⟩
            have x0 := HR6.out.cell 0
            have x1 := HR6.out.cell 1
            have x2 := HR6.out.cell 2
            have x3 := HR6.out.cell 3
            have x4 := HA6.out.cell 0
            have x5 := HA6.out.cell 1
            have x6 := HA6.out.cell 2
            have x7 := HA6.out.cell 3
            clear h0 HRM
            go_upto_region 15 with fail
            rw [← hw6] at HS6 HT6 HA6 HR6 HL6 x0 x1 x2 x3 x4 x5 x6 x7 ⊢
            clear hw6 HM6
            have hal := (Below.refl w6.heap.size w6).alloc (Nat.le_refl _) (.cells #[.int .i64 1, .bool false, .int .i64 0, .int .i64 0, .int .i64 3, .bool true, .int .i64 (ix : Int), .int .i64 0] 94)
            have HTR := Lib.hid (by have h := HTRY.out _ _ (.slice (some ⟨w6.heap.size, 0, none⟩) 2 2) [⟨1, false, 0, 0⟩, ⟨3, true, (ix : Int), 0⟩] (HS6.out.below HJ.out hal) (moves2 (Arr.new w6 94 [.int .i64 1, .bool false, .int .i64 0, .int .i64 0, .int .i64 3, .bool true, .int .i64 (ix : Int), .int .i64 0]) 2) (by simp) (by have := HSF.out; rw [HRL.out] at this; exact this); rw [← HRL.out, List.append_assoc, ← nb1_succ] at h; exact h)
            have HT8 := Lib.hid (HT6.out.below hal HT6.out.lt)
            have HA8 := Lib.hid (HA6.out.below hal HA6.out.lt)
            have HL8 := Lib.hid (Nat.le_trans HL6.out hal.size)
            clear hal
            go_wp2_with fail
            refine HTR.out.mono ?_
            rintro e w7 (⟨rfl, hst7, hkq⟩ | ⟨rfl, hx⟩)
            · have HS7 := Lib.hid hst7
              have HT7 := Lib.hid (hkq.arr HT8.out (.inr ⟨fun e => by have := HLL.out; have := HLB.out; omega, .inr (.inl rfl)⟩))
              have HA7 := Lib.hid (hkq.arr HA8.out (.inr ⟨fun e => by have := HLL.out; have := HLB.out; omega, .inr (.inl rfl)⟩))
              have HL7 := Lib.hid (Nat.le_trans HL8.out hkq.1)
              clear hst7 hkq x0 x1 x2 x3 x4 x5 x6 x7
              go_wp2_with fail
              go_roundg (nx - (ix + 1))
              case measure => omega
              case rel => exact ⟨ix + 1, by omega, rfl, by go_num, HS7.out, HT7.out, HA7.out, HL7.out⟩
            · have HX := Lib.hid hx
              clear hx x0 x1 x2 x3 x4 x5 x6 x7
              go_wp2_with fail
              refine bodyPost_ret (results_none rfl _ _ _) rfl ?_
              exact ⟨⟨_, rfl⟩, .inr HX.out⟩
        · have z1 : ¬ (ix : Int) < (nx : Int) := by omega
          obtain rfl : ix = nx := by omega
          clear HA3
          go_upto_region 19 with fail
          go_loopg [14, 55] (ix - 1) (fun gk s14 s55 wr => ∃ k : Nat, k ≤ ix - 1 ∧ gk = ix - 1 - k ∧ s55 = .int .i64 (k : Int) ∧ NbS l base gB base (.slice A ix c) (.slice B no d) 89 g J (prQ g 1 ++ nb1 g true ix ++ nb2 g true k) wr ∧ Arr wr gT 94 [.int .i64 1, .bool true, .int .i64 0, .int .i64 0] ∧ base ≤ wr.heap.size)
          case atStart => exact ⟨0, by omega, rfl, rfl, by rw [show nb2 g true 0 = [] from rfl, List.append_nil]; exact HST.out, HT3.out, HL3.out⟩
          case round =>
            clear HST HT3 HL3
            obtain ⟨k, hk, rfl, rfl, hst, hT, hlb⟩ := hrel
            obtain ⟨wk, rfl⟩ : ∃ wk : World, wk = wr := ⟨_, rfl⟩
            have HST := Lib.hid hst
            have HT3 := Lib.hid hT
            have HL3 := Lib.hid hlb
            clear hst hT hlb
            by_cases hkt : k < ix - 1
            · have z2 : (k : Int) < (ix : Int) - 1 := by omega
              have hal := (Below.refl wk.heap.size wk).alloc (Nat.le_refl _) (.cells #[.int .i64 2, .bool true, .int .i64 (k : Int), .int .i64 0] 94)
              have HSF := Lib.hid (suf2 (g := g) (q := 1) (r := true) (by decide) (i := k) (by rw [← HNG.out]; exact hkt))
              have HTR := Lib.hid (by have h := HTRY.out _ _ (.slice (some ⟨wk.heap.size, 0, none⟩) 1 1) [coM true (k : Int)] (HST.out.below HJ.out hal) (moves1 (Arr.new wk 94 [.int .i64 2, .bool true, .int .i64 (k : Int), .int .i64 0]) 1) (by simp) (by have := HSF.out; rw [← HNG.out] at this; exact this); rw [List.append_assoc, ← nb2_succ] at h; exact h)
              have HT8 := Lib.hid (HT3.out.below hal HT3.out.lt)
              have HL8 := Lib.hid (Nat.le_trans HL3.out hal.size)
              clear hal
              go_wp2_with fail
              refine HTR.out.mono ?_
              rintro e w7 (⟨rfl, hst7, hkq⟩ | ⟨rfl, hx⟩)
              · have HS7 := Lib.hid hst7
                have HT7 := Lib.hid (hkq.arr HT8.out (.inr ⟨fun e => by have := HLL.out; have := HLB.out; omega, .inr (.inl rfl)⟩))
                have HL7 := Lib.hid (Nat.le_trans HL8.out hkq.1)
                clear hst7 hkq
                go_wp2_with fail
                go_roundg (ix - 1 - (k + 1))
                case measure => omega
                case rel => exact ⟨k + 1, by omega, rfl, by go_num, HS7.out, HT7.out, HL7.out⟩
              · have HX := Lib.hid hx
                clear hx
                go_wp2_with fail
                refine bodyPost_ret (results_none rfl _ _ _) rfl ?_
                exact ⟨⟨_, rfl⟩, .inr HX.out⟩
            · have z2 : ¬ (k : Int) < (ix : Int) - 1 := by omega
              obtain ⟨hke⟩ : Nonempty (k = ix - 1) := ⟨by omega⟩
              rw [hke] at HST
              have hal := (Below.refl wk.heap.size wk).alloc (Nat.le_refl _) (.cells #[.int .i64 1, .bool true, .int .i64 0, .int .i64 0, .int .i64 2, .bool true, .int .i64 ((ix : Int) - 2), .int .i64 0] 94)
              have HSF := Lib.hid (by have h := suf3 (g := g) (q := 1) (r := true) (by decide); rw [← HNG.out] at h; exact h)
              have HTR := Lib.hid (HTRY.out _ _ (.slice (some ⟨wk.heap.size, 0, none⟩) 2 2) [tuM true, coM true ((ix : Int) - 2)] (HST.out.below HJ.out hal) (moves2 (Arr.new wk 94 [.int .i64 1, .bool true, .int .i64 0, .int .i64 0, .int .i64 2, .bool true, .int .i64 ((ix : Int) - 2), .int .i64 0]) 2) (by simp) HSF.out)
              have HPE := Lib.hid (show prQ g (1 + 1) = prQ g 1 ++ nb1 g true ix ++ nb2 g true (ix - 1) ++ tryM g [tuM true, coM true ((ix : Int) - 2)] by
                obtain ⟨s, -, e⟩ := prQ_suf (g := g) (q := 1) (r := true) (by decide)
                rw [e]; unfold nbR nb3; rw [← HNG.out]; simp only [List.append_assoc])
              have HL8 := Lib.hid (Nat.le_trans HL3.out hal.size)
              have x0 := HT3.out.cell 0
              have x1 := HT3.out.cell 1
              have x2 := HT3.out.cell 2
              have x3 := HT3.out.cell 3
              clear hal hke
              go_wp2_with fail
              refine HTR.out.mono ?_
              rintro e w7 (⟨rfl, hst7, hkq⟩ | ⟨rfl, hx⟩)
              · have HS7 := Lib.hid hst7
                have HL7 := Lib.hid (Nat.le_trans HL8.out hkq.1)
                clear hst7 hkq x0 x1 x2 x3
                go_wp2_with fail
                go_roundg (2 - (1 + 1))
                case measure => omega
                case rel => exact ⟨1 + 1, by omega, rfl, by go_num, by rw [HPE.out]; exact HS7.out, HL7.out⟩
              · have HX := Lib.hid hx
                clear hx x0 x1 x2 x3
                go_wp2_with fail
                refine bodyPost_ret (results_none rfl _ _ _) rfl ?_
                exact ⟨⟨_, rfl⟩, .inr HX.out⟩
    · have HJE := Lib.hid (show J (nbrs g).length wo from HST.out.j)
      go_wp2_with fail
      go_end0
      exact ⟨⟨_, rfl⟩, .inl HJE.out⟩
end Go.Proofs.YteliflcbegcdlaaGreatDoor

namespace Go.Proofs.YteliflcbegcdlaaGreatDoor
open Go.RowKit Go.Shelf
set_option linter.unusedVariables false
theorem Moves.put {A : World} {l : Nat} {o : Obj} {v : Value} {ms : List Mv} (h : Lp l A) (k : Moves A v ms) : Moves (A.putObj l o) v ms := by
  obtain ⟨A0, c, e, hx⟩ := k
  refine ⟨A0, c, e, fun j hj => ?_⟩
  obtain ⟨b, off, e1, hcell⟩ := hx j hj
  exact ⟨b, off, e1, fun i u hu => cell_put h (hcell i u hu)⟩
theorem GdI.put {A : World} {l : Nat} {o : Obj} {v : Value} {g : Gd} (h : Lp l A) (k : GdI A v g) : GdI (A.putObj l o) v g := by
  obtain ⟨A0, n, c, B0, m, d, e, a, b⟩ := k
  exact ⟨A0, n, c, B0, m, d, e, a.put h, b.put h⟩
theorem NbRd.below {g : Gd} {k : Nat} {v u : Value} {A B : World} (h : NbRd g k v u A) (hb : Below A.heap.size A B) : NbRd g k v u B := by
  obtain ⟨ms, g', e, a, b⟩ := h
  exact ⟨ms, g', e, a.below hb, b.below hb⟩
theorem NbRd.put {g : Gd} {k : Nat} {v u : Value} {A : World} {l : Nat} {o : Obj} (hl : Lp l A) (h : NbRd g k v u A) : NbRd g k v u (A.putObj l o) := by
  obtain ⟨ms, g', e, a, b⟩ := h
  exact ⟨ms, g', e, a.put hl, b.put hl⟩
theorem nb_tells (n gB l : Nat) (hn : 2 ≤ n) (A B : Option Addr) (nx c no d : Nat) (g : Gd) (W : World) (hv : Vd g.1 g.2)
    (hl : l < W.heap.size) (hB : Arr W gB 24 [.slice A nx c, .slice B no d]) (iX : IntR l W (.slice A nx c) g.1) (iO : IntR l W (.slice B no d) g.2) :
    Tells Tryz.prog n 47 #[.pointer (some ⟨gB, 0, none⟩)] (nbrs g).length (NbRd g) (Kq l gB) l W := by
  intro J Jx hJ hJx hR h0
  exact (callsIn_wide (n := n)).2 (nb_any n l gB hn A B nx c no d g W J Jx hJ hv hl hB iX iO h0 hR)
/-- neighbors: a box for the grid, the iterator -/
theorem neighbors_any (g v : Value) (w : World) : ∀ (hg : ∃ a b, g = .agg #[a, b]), Calls Tryz.prog 31 #[g] w fun e w' =>
    ∃ a b, g = .agg #[a, b] ∧ e = .returned (.func (.func 47) #[] #[.pointer (some ⟨w.heap.size, 0, none⟩)]) ∧ Arr w' w.heap.size 24 [a, b] ∧ Below w.heap.size w w' ∧ w.heap.size < w'.heap.size := by
  rintro ⟨a, b, rfl⟩
  go_enter Tryz.func31, Tryz.ntmps31
  go_wp2_with fail
  go_ret
  exact ⟨a, b, rfl, rfl, by first | exact Arr.new w _ [_, _] | skip, (Below.refl _ _).alloc (Nat.le_refl _) _, by simp⟩
end Go.Proofs.YteliflcbegcdlaaGreatDoor

namespace Go.Proofs.YteliflcbegcdlaaGreatDoor
open Go.RowKit Go.Shelf
set_option linter.unusedVariables false
abbrev SL := Option Addr × Nat × Nat
abbrev GV := SL × SL
def sv (s : SL) : Value := .slice s.1 s.2.1 s.2.2
def eG (p : GV) : List Value := [sv p.1, sv p.2]
def GvI (w : World) (p : GV) (g : Gd) : Prop := Ints w (sv p.1) g.1 ∧ Ints w (sv p.2) g.2
theorem GvI.gd {w : World} {p : GV} {g : Gd} (h : GvI w p g) : GdI w (.agg #[sv p.1, sv p.2]) g := ⟨_, _, _, _, _, _, rfl, h.1, h.2⟩
theorem GdI.gv {w : World} {v : Value} {g : Gd} (h : GdI w v g) : ∃ p : GV, v = .agg #[sv p.1, sv p.2] ∧ GvI w p g := by
  obtain ⟨A, n, c, B, m, d, rfl, a, b⟩ := h
  exact ⟨((A, n, c), (B, m, d)), rfl, a, b⟩
/-- the list ps of values reads as the grids gs -/
def Al (w : World) : List GV → List Gd → Prop
  | [], [] => True
  | p :: ps, g :: gs => GvI w p g ∧ Al w ps gs
  | _, _ => False
theorem Al.len {w : World} : ∀ {ps : List GV} {gs : List Gd}, Al w ps gs → ps.length = gs.length
  | [], [], _ => rfl
  | p :: ps, g :: gs, h => by simp [Al.len h.2]
  | [], g :: gs, h => h.elim
  | p :: ps, [], h => h.elim
theorem Al.imp {w w' : World} (hk : ∀ p g, GvI w p g → GvI w' p g) : ∀ {ps : List GV} {gs : List Gd}, Al w ps gs → Al w' ps gs
  | [], [], _ => trivial
  | p :: ps, g :: gs, h => ⟨hk p g h.1, Al.imp hk h.2⟩
  | [], g :: gs, h => h.elim
  | p :: ps, [], h => h.elim
theorem Al.snoc {w : World} {q : GV} {x : Gd} (hq : GvI w q x) : ∀ {ps : List GV} {gs : List Gd}, Al w ps gs → Al w (ps ++ [q]) (gs ++ [x])
  | [], [], _ => ⟨hq, trivial⟩
  | p :: ps, g :: gs, h => ⟨h.1, Al.snoc hq h.2⟩
  | [], g :: gs, h => h.elim
  | p :: ps, [], h => h.elim
theorem Al.get {w : World} : ∀ {ps : List GV} {gs : List Gd}, Al w ps gs → ∀ (i : Nat) (p : GV) (g : Gd), ps[i]? = some p → gs[i]? = some g → GvI w p g
  | [], [], _, i, p, g, h, _ => by simp at h
  | p :: ps, g :: gs, h, 0, q, x, h1, h2 => by simp at h1 h2; subst h1; subst h2; exact h.1
  | p :: ps, g :: gs, h, i + 1, q, x, h1, h2 => Al.get h.2 i q x (by simpa using h1) (by simpa using h2)
  | [], g :: gs, h, _, _, _, _, _ => h.elim
  | p :: ps, [], h, _, _, _, _, _ => h.elim
theorem info_gr5 : (Tryz.prog.info? 24).map (fun i => (i.zero, i.size, i.bytes)) = some (some (.agg #[.slice none 0 0, .slice none 0 0]), 2, 48) := by kernel_rfl
theorem elG : ElQ Tryz.prog 24 2 eG where
  ex := by
    obtain ⟨i, hi, hz, hs, hb⟩ := info_parts info_gr5
    exact ⟨i, _, 48, hi, hz, hs, hb, rfl, by omega⟩
  pos := by omega
  len := fun x => rfl
  one := fun x q h => by unfold eG sv at h; simp at h; rcases h with rfl | rfl <;> rfl
  esl := fun x q h => by unfold eG sv at h; simp at h; rcases h with rfl | rfl <;> exact ⟨_, _, _, rfl⟩
  zsl := fun i z h1 h2 q hq => by
    obtain ⟨j, hj, hz, hs, hb⟩ := info_parts info_gr5
    have e1 := h1.symm.trans hj
    injection e1 with e1
    subst e1
    have e2 := h2.symm.trans hz
    injection e2 with e2
    subst e2
    have : q = .slice none 0 0 := by simpa [Value.cells] using hq
    exact ⟨_, _, _, this⟩
/-! ### the state -/
structure SP where
  m1 : Nat
  m2 : Nat
  vC : Value
  WS : List Value
  L1 : List (List UInt8 × Value)
  c1 : Nat
  c2 : Nat
def frS : Option Gd → List UInt8
  | none => []
  | some c => fmG c
def l2 (K : List En) : List (List UInt8 × Value) := K.map fun e => (fmG e.key, .string ⟨(frS e.fr).toArray⟩)
def Ow (gS : Nat) (p : SP) (b : Nat) : Prop := b = gS ∨ b = p.m1 ∨ b = p.m2 ∨ sBlk p.vC = some b ∨ ∃ v ∈ p.WS, sBlk v = some b
/-- the entries of the map of moves -/
def AlK (w : World) (L : List (List UInt8 × Value)) (K : List En) : Prop :=
  L.length = K.length ∧ ∀ (i : Nat) q e, L[i]? = some q → K[i]? = some e → q.1 = fmG e.key ∧ Moves w q.2 e.ms
structure SI (gS : Nat) (w : World) (s : St) (p : SP) : Prop where
  hd : Arr w gS 52 (.map (some p.m1) :: .map (some p.m2) :: p.vC :: p.WS)
  wl : p.WS.length = 41
  w2 : s.2.length = 41
  ne : p.m1 ≠ p.m2
  mp1 : MpS w p.m1 p.L1 p.c1
  mp2 : MpS w p.m2 (l2 s.1) p.c2
  al1 : AlK w p.L1 s.1
  cls : ∃ cs, QA 24 2 eG 0 w p.vC cs ∧ Al w cs (s.1.map En.key)
  wt : ∀ (i : Nat) v gs, p.WS[i]? = some v → s.2[i]? = some gs → ∃ ps, QA 24 2 eG 0 w v ps ∧ Al w ps gs
  ap1 : ∀ (i : Nat) v b, p.WS[i]? = some v → sBlk v = some b → sBlk p.vC ≠ some b
  ap2 : ∀ (i j : Nat) v u b, p.WS[i]? = some v → p.WS[j]? = some u → i ≠ j → sBlk v = some b → sBlk u ≠ some b
/-- the plain part -/
structure StP (s : St) : Prop where
  v1 : ∀ e ∈ s.1, Vd e.key.1 e.key.2
  v2 : ∀ l ∈ s.2, ∀ g ∈ l, Vd g.1 g.2
  nd : (s.1.map En.key).Nodup
  sm : ∀ l ∈ s.2, l.length ≤ s.1.length
  l2 : s.2.length = 41
/-- what may hold in a block of the state -/
theorem SI.typ {gS : Nat} {w : World} {s : St} {p : SP} (h : SI gS w s p) {b : Nat} (hb : Ow gS p b) : (∃ es c, w.heap[b]? = some (.map es c)) ∨ ∃ cs t fr, w.heap[b]? = some (.cells cs t fr) ∧ (t = 52 ∨ t = 24) := by
  rcases hb with rfl | rfl | rfl | hb | ⟨v, hv, hb⟩
  · exact .inr ⟨_, _, _, h.hd, .inl rfl⟩
  · obtain ⟨es, h1, _⟩ := h.mp1; exact .inl ⟨_, _, h1⟩
  · obtain ⟨es, h1, _⟩ := h.mp2; exact .inl ⟨_, _, h1⟩
  · obtain ⟨cs, h1, _⟩ := h.cls
    obtain ⟨cs, fr, h2⟩ := h1.typ b hb
    exact .inr ⟨_, _, _, h2, .inr rfl⟩
  · obtain ⟨i, hi⟩ := List.getElem?_of_mem hv
    have hlt : i < s.2.length := by have := (List.getElem?_eq_some_iff.1 hi).1; have := h.wl; have := h.w2; omega
    obtain ⟨ps, h1, _⟩ := h.wt i v _ hi (List.getElem?_eq_getElem hlt)
    obtain ⟨cs, fr, h2⟩ := h1.typ b hb
    exact .inr ⟨_, _, _, h2, .inr rfl⟩
theorem SI.lt {gS : Nat} {w : World} {s : St} {p : SP} (h : SI gS w s p) {b : Nat} (hb : Ow gS p b) : b < w.heap.size := by
  rcases h.typ hb with ⟨es, c, e⟩ | ⟨cs, t, fr, e, _⟩ <;> exact (Array.getElem?_eq_some_iff.1 e).1
/-- no integer lies in a block of the state -/
theorem SI.noint {gS : Nat} {w : World} {s : St} {p : SP} (h : SI gS w s p) {b i : Nat} {k : IntKind} {n : Int} (hc : w.cell? ⟨b, i, none⟩ = some (.int k n)) : ¬ Ow gS p b := by
  intro hb
  rcases hb with rfl | rfl | rfl | hb | ⟨v, hv, hb⟩
  · rw [h.hd.cell i] at hc
    rcases i with _ | _ | _ | i
    · cases hc
    · cases hc
    · obtain ⟨cs, h1, _⟩ := h.cls
      obtain ⟨A, c, e⟩ := h1.form
      simp only [List.getElem?_cons_succ, List.getElem?_cons_zero, e] at hc
      cases hc
    · simp only [List.getElem?_cons_succ] at hc
      have hlt : i < s.2.length := by have := (List.getElem?_eq_some_iff.1 hc).1; have := h.wl; have := h.w2; omega
      obtain ⟨ps, h1, _⟩ := h.wt i _ _ hc (List.getElem?_eq_getElem hlt)
      obtain ⟨A, c, e⟩ := h1.form
      cases e
  · obtain ⟨es, h1, _⟩ := h.mp1; unfold World.cell? at hc; rw [h1] at hc; cases hc
  · obtain ⟨es, h1, _⟩ := h.mp2; unfold World.cell? at hc; rw [h1] at hc; cases hc
  · obtain ⟨cs, h1, _⟩ := h.cls
    obtain ⟨A, n, c, e⟩ := h1.noint hb hc
    cases e
  · obtain ⟨j, hj⟩ := List.getElem?_of_mem hv
    have hlt : j < s.2.length := by have := (List.getElem?_eq_some_iff.1 hj).1; have := h.wl; have := h.w2; omega
    obtain ⟨ps, h1, _⟩ := h.wt j v _ hj (List.getElem?_eq_getElem hlt)
    obtain ⟨A, n, c, e⟩ := h1.noint hb hc
    cases e
/-- a step that writes the state's blocks alone -/
structure Kf (gS : Nat) (p : SP) (w w' : World) : Prop where
  siz : w.heap.size ≤ w'.heap.size
  keep : ∀ b, b < w.heap.size → ¬ Ow gS p b → w'.heap[b]? = w.heap[b]?
section
variable {gS : Nat} {w w' : World} {s : St} {p : SP}
theorem Kf.ints (k : Kf gS p w w') (h : SI gS w s p) {v : Value} {xs : List Int} (hx : Ints w v xs) : Ints w' v xs := by
  obtain ⟨A0, c, e, hc, hx⟩ := hx
  refine ⟨A0, c, e, hc, fun j x hj => ?_⟩
  obtain ⟨b, off, e1, hcell⟩ := hx j x hj
  exact ⟨b, off, e1, (World.cell?_of_block (k.keep b (block_lt_of_cell hcell) (h.noint hcell))).trans hcell⟩
theorem Kf.gv (k : Kf gS p w w') (h : SI gS w s p) (q : GV) (g : Gd) (hx : GvI w q g) : GvI w' q g := ⟨k.ints h hx.1, k.ints h hx.2⟩
theorem Kf.gd (k : Kf gS p w w') (h : SI gS w s p) {v : Value} {g : Gd} (hx : GdI w v g) : GdI w' v g := by
  obtain ⟨A, n, c, B, m, d, rfl, a, b⟩ := hx
  exact ⟨A, n, c, B, m, d, rfl, k.ints h a, k.ints h b⟩
theorem Kf.moves (k : Kf gS p w w') (h : SI gS w s p) {v : Value} {ms : List Mv} (hx : Moves w v ms) : Moves w' v ms := by
  obtain ⟨A0, c, e, hx⟩ := hx
  refine ⟨A0, c, e, fun j hj => ?_⟩
  obtain ⟨b, off, e1, hcell⟩ := hx j hj
  have h0 := hcell 0 _ rfl
  have hb := k.keep b (block_lt_of_cell h0) (h.noint h0)
  exact ⟨b, off, e1, fun i u hu => (World.cell?_of_block hb).trans (hcell i u hu)⟩
/-- the state where nothing of it is written -/
theorem SI.below (h : SI gS w s p) (hb : Below w.heap.size w w') : SI gS w' s p := by
  have k : Kf gS p w w' := ⟨hb.size, fun b hlt _ => hb.block b hlt⟩
  have hk : ∀ b, Ow gS p b → w'.heap[b]? = w.heap[b]? := fun b ho => hb.block b (h.lt ho)
  obtain ⟨cs, q1, q2⟩ := h.cls
  exact ⟨(hk _ (.inl rfl)).trans h.hd, h.wl, h.w2, h.ne, h.mp1.keep (hk _ (.inr (.inl rfl))), h.mp2.keep (hk _ (.inr (.inr (.inl rfl)))),
    ⟨h.al1.1, fun i q e h1 h2 => ⟨(h.al1.2 i q e h1 h2).1, (h.al1.2 i q e h1 h2).2.below hb⟩⟩, ⟨cs, q1.below hb, q2.imp (k.gv h)⟩,
    fun i v gs h1 h2 => by
      obtain ⟨ps, a, b⟩ := h.wt i v gs h1 h2
      exact ⟨ps, a.below hb, b.imp (k.gv h)⟩, h.ap1, h.ap2⟩
theorem SI.put (h : SI gS w s p) {l : Nat} {o : Obj} (hl : Lp l w) : SI gS (w.putObj l o) s p := by
  have hne : ∀ b, Ow gS p b → (w.putObj l o).heap[b]? = w.heap[b]? := fun b ho => World.putObj_heap_other (by
    rintro rfl
    obtain ⟨r, e⟩ := hl
    rcases h.typ ho with ⟨es, c, e2⟩ | ⟨cs, t, fr, e2, _⟩ <;> (rw [e] at e2; cases e2))
  obtain ⟨cs, q1, q2⟩ := h.cls
  exact ⟨(hne _ (.inl rfl)).trans h.hd, h.wl, h.w2, h.ne, h.mp1.keep (hne _ (.inr (.inl rfl))), h.mp2.keep (hne _ (.inr (.inr (.inl rfl)))),
    ⟨h.al1.1, fun i q e h1 h2 => ⟨(h.al1.2 i q e h1 h2).1, (h.al1.2 i q e h1 h2).2.put hl⟩⟩, ⟨cs, q1.keepK fun b hb => hne b (.inr (.inr (.inr (.inl hb)))), q2.imp fun q g hx => ⟨hx.1.put hl, hx.2.put hl⟩⟩,
    fun i v gs h1 h2 => by
      obtain ⟨ps, a, b⟩ := h.wt i v gs h1 h2
      exact ⟨ps, a.keepK fun b hb => hne b (.inr (.inr (.inr (.inr ⟨v, List.mem_of_getElem? h1, hb⟩)))), b.imp fun q g hx => ⟨hx.1.put hl, hx.2.put hl⟩⟩, h.ap1, h.ap2⟩
end
end Go.Proofs.YteliflcbegcdlaaGreatDoor

namespace Go.Proofs.YteliflcbegcdlaaGreatDoor
open Go.RowKit Go.Shelf
set_option linter.unusedVariables false
/-- a1, f1: the entry of the first map, its store; a2, f2: of the second -/
structure M2I (B : Nat) (w0 : World) (ev : Nat → Option Value) (m1 m2 a1 f1 a2 f2 : Nat) (L1 L2 : List (List UInt8 × Value)) (k : List UInt8) (v1 v2 : Value) (c1 c2 : Nat) (D : Nat → Bool) (x : Nat → Value) (w : World) : Prop where
  kn : ∀ i v, ev i = some v → D i = true → x i = v
  far : ∀ b, b ≠ m1 → b ≠ m2 → w.heap[b]? = w0.heap[b]?
  siz : w.heap.size = w0.heap.size
  bel : Below B w0 w
  s1 : D a1 = false → D f1 = false → MpS w m1 L1 c1
  p1 : D a1 = true → D f1 = false → MpP w m1 L1 k c1
  e1 : D f1 = true → MpS w m1 (L1 ++ [(k, v1)]) (c1 + 1)
  s2 : D a2 = false → D f2 = false → MpS w m2 L2 c2
  p2 : D a2 = true → D f2 = false → MpP w m2 L2 k c2
  e2 : D f2 = true → MpS w m2 (L2 ++ [(k, v2)]) (c2 + 1)
section
variable {B : Nat} {w0 w w' : World} {ev : Nat → Option Value} {m1 m2 a1 f1 a2 f2 : Nat} {L1 L2 : List (List UInt8 × Value)} {k : List UInt8} {v1 v2 : Value} {c1 c2 : Nat} {D : Nat → Bool} {x : Nat → Value}
theorem M2I.start (h1 : MpS w0 m1 L1 c1) (h2 : MpS w0 m2 L2 c2) : M2I B w0 ev m1 m2 a1 f1 a2 f2 L1 L2 k v1 v2 c1 c2 (fun _ => false) x w0.drew :=
  ⟨fun i v _ h => Bool.noConfusion h, fun _ _ _ => rfl, rfl, (Below.refl _ _).drew, fun _ _ => h1.keep rfl, fun h => Bool.noConfusion h, fun h => Bool.noConfusion h, fun _ _ => h2.keep rfl, fun h => Bool.noConfusion h, fun h => Bool.noConfusion h⟩
theorem M2I.kn' (h : M2I B w0 ev m1 m2 a1 f1 a2 f2 L1 L2 k v1 v2 c1 c2 D x w) {i : Nat} {v : Value} (hv : ∀ u, ev i = some u → v = u) : ∀ j u, ev j = some u → upd D i true j = true → upd x i v j = u := by
  intro j u hu hd
  by_cases e : j = i
  · subst e; rw [upd_same]; exact hv u hu
  · rw [upd_ne _ _ e] at hd ⊢; exact h.kn j u hu hd
theorem M2I.val (h : M2I B w0 ev m1 m2 a1 f1 a2 f2 L1 L2 k v1 v2 c1 c2 D x w) {i : Nat} {v : Value} (hv : ev i = some v) (n1 : a1 ≠ i) (n2 : f1 ≠ i) (n3 : a2 ≠ i) (n4 : f2 ≠ i) : M2I B w0 ev m1 m2 a1 f1 a2 f2 L1 L2 k v1 v2 c1 c2 (upd D i true) (upd x i v) w := by
  refine ⟨h.kn' fun u hu => ?_, h.far, h.siz, h.bel, ?_, ?_, ?_, ?_, ?_, ?_⟩
  · rw [hv] at hu; injection hu
  · rw [upd_ne _ _ n1, upd_ne _ _ n2]; exact h.s1
  · rw [upd_ne _ _ n1, upd_ne _ _ n2]; exact h.p1
  · rw [upd_ne _ _ n2]; exact h.e1
  · rw [upd_ne _ _ n3, upd_ne _ _ n4]; exact h.s2
  · rw [upd_ne _ _ n3, upd_ne _ _ n4]; exact h.p2
  · rw [upd_ne _ _ n4]; exact h.e2
/-- a step on the first map -/
theorem M2I.one (h : M2I B w0 ev m1 m2 a1 f1 a2 f2 L1 L2 k v1 v2 c1 c2 D x w) {i : Nat} {v : Value} (hv : ∀ u, ev i = some u → v = u) (n3 : a2 ≠ i) (n4 : f2 ≠ i) (hm : m1 ≠ m2) (hf : ∀ r, r ≠ m1 → w'.heap[r]? = w.heap[r]?) (hz : w'.heap.size = w.heap.size) (hb : Below B w w')
    (q1 : upd D i true a1 = false → upd D i true f1 = false → MpS w' m1 L1 c1) (q2 : upd D i true a1 = true → upd D i true f1 = false → MpP w' m1 L1 k c1) (q3 : upd D i true f1 = true → MpS w' m1 (L1 ++ [(k, v1)]) (c1 + 1)) :
    M2I B w0 ev m1 m2 a1 f1 a2 f2 L1 L2 k v1 v2 c1 c2 (upd D i true) (upd x i v) w' := by
  refine ⟨h.kn' hv, fun b h1 h2 => (hf b h1).trans (h.far b h1 h2), hz.trans h.siz, h.bel.trans hb, q1, q2, q3, ?_, ?_, ?_⟩
  · rw [upd_ne _ _ n3, upd_ne _ _ n4]; exact fun a b => (h.s2 a b).keep (hf _ (Ne.symm hm))
  · rw [upd_ne _ _ n3, upd_ne _ _ n4]; exact fun a b => (h.p2 a b).keep (hf _ (Ne.symm hm))
  · rw [upd_ne _ _ n4]; exact fun a => (h.e2 a).keep (hf _ (Ne.symm hm))
theorem M2I.two (h : M2I B w0 ev m1 m2 a1 f1 a2 f2 L1 L2 k v1 v2 c1 c2 D x w) {i : Nat} {v : Value} (hv : ∀ u, ev i = some u → v = u) (n3 : a1 ≠ i) (n4 : f1 ≠ i) (hm : m1 ≠ m2) (hf : ∀ r, r ≠ m2 → w'.heap[r]? = w.heap[r]?) (hz : w'.heap.size = w.heap.size) (hb : Below B w w')
    (q1 : upd D i true a2 = false → upd D i true f2 = false → MpS w' m2 L2 c2) (q2 : upd D i true a2 = true → upd D i true f2 = false → MpP w' m2 L2 k c2) (q3 : upd D i true f2 = true → MpS w' m2 (L2 ++ [(k, v2)]) (c2 + 1)) :
    M2I B w0 ev m1 m2 a1 f1 a2 f2 L1 L2 k v1 v2 c1 c2 (upd D i true) (upd x i v) w' := by
  refine ⟨h.kn' hv, fun b h1 h2 => (hf b h2).trans (h.far b h1 h2), hz.trans h.siz, h.bel.trans hb, ?_, ?_, ?_, q1, q2, q3⟩
  · rw [upd_ne _ _ n3, upd_ne _ _ n4]; exact fun a b => (h.s1 a b).keep (hf _ hm)
  · rw [upd_ne _ _ n3, upd_ne _ _ n4]; exact fun a b => (h.p1 a b).keep (hf _ hm)
  · rw [upd_ne _ _ n4]; exact fun a => (h.e1 a).keep (hf _ hm)
end
theorem zero_mvs (w : World) : (zeroValue 39).run Tryz.prog w = .ok (.slice none 0 0) w := by
  obtain ⟨i, hi, hz⟩ : ∃ i, Tryz.prog.info? 39 = some i ∧ i.zero = some (.slice none 0 0) := by
    have h : (Tryz.prog.info? 39).map (fun i => i.zero) = some (some (.slice none 0 0)) := by kernel_rfl
    cases e : Tryz.prog.info? 39 with
    | none => rw [e] at h; cases h
    | some i => rw [e] at h; injection h with h; exact ⟨i, rfl, h⟩
  simp [zeroValue, typeInfo, hi, hz]
theorem zero_str (w : World) : (zeroValue 9).run Tryz.prog w = .ok (.string ⟨#[]⟩) w := by
  obtain ⟨i, hi, hz⟩ : ∃ i, Tryz.prog.info? 9 = some i ∧ i.zero = some (.string ⟨#[]⟩) := by
    have h : (Tryz.prog.info? 9).map (fun i => i.zero) = some (some (.string ⟨#[]⟩)) := by kernel_rfl
    cases e : Tryz.prog.info? 9 with
    | none => rw [e] at h; cases h
    | some i => rw [e] at h; injection h with h; exact ⟨i, rfl, h⟩
  simp [zeroValue, typeInfo, hi, hz]
end Go.Proofs.YteliflcbegcdlaaGreatDoor

namespace Go.Proofs.YteliflcbegcdlaaGreatDoor
open Go.RowKit Go.Shelf
set_option linter.unusedVariables false
/-! ### plain -/
theorem nextM_none : ∀ (l : List (List Gd)), (∀ x ∈ l, x = []) → nextM l = none
  | [], _ => rfl
  | x :: t, h => by
    obtain rfl : x = [] := h x (by simp)
    rw [nextM, nextM_none t (fun y hy => h y (by simp [hy]))]; rfl
theorem nextM_some : ∀ (k : Nat) (l : List (List Gd)) {g : Gd} {t : List Gd}, (∀ i, i < k → l[i]? = some []) → l[k]? = some (g :: t) → nextM l = some (g, l.set k t)
  | 0, [], g, t, _, h => by simp at h
  | 0, x :: l, g, t, _, h => by
    simp at h; subst h; rfl
  | k + 1, [], g, t, _, h => by simp at h
  | k + 1, x :: l, g, t, h0, h => by
    have hx : x = [] := by have := h0 0 (by omega); simpa using this
    subst hx
    rw [nextM, nextM_some k l (fun i hi => by have := h0 (i + 1) (by omega); simpa using this) (by simpa using h)]
    rfl
/-! ### an array of slices -/
theorem info_41 : ∃ i, Tryz.prog.info? 50 = some i ∧ i.size = 41 := by
  have h : (Tryz.prog.info? 50).map (fun i => i.size) = some 41 := by kernel_rfl
  cases e : Tryz.prog.info? 50 with
  | none => rw [e] at h; cases h
  | some i => rw [e] at h; injection h with h; exact ⟨i, rfl, h⟩
theorem info_sl1 : ∃ i, Tryz.prog.info? 27 = some i ∧ i.size = 1 := by
  have h : (Tryz.prog.info? 27).map (fun i => i.size) = some 1 := by kernel_rfl
  cases e : Tryz.prog.info? 27 with
  | none => rw [e] at h; cases h
  | some i => rw [e] at h; injection h with h; exact ⟨i, rfl, h⟩
theorem load41 {w : World} {gS : Nat} {WS : List Value} (hl : WS.length = 41) (h : ∀ (j : Nat) v, WS[j]? = some v → w.cell? ⟨gS, 3 + j, none⟩ = some v) :
    Sem.run Tryz.prog (Instr.loadAt 50 (.pointer (some ⟨gS, 3, none⟩))) w = .ok (.agg WS.toArray) w := by
  obtain ⟨i, e, hi⟩ := info_41
  have hu := Tryz.underlying50
  have hagg : (isAgg 50).run Tryz.prog w = .ok true w := by
    unfold isAgg
    rw [Sem.run_bind, run_underlying hu w]
    rfl
  have hc := run_loadCells_list (P := Tryz.prog) w ⟨gS, 3, none⟩ WS (fun j v hj => by
    have hadd : (⟨gS, 3, none⟩ : Addr).add j = ⟨gS, 3 + j, none⟩ := by unfold Addr.add; split <;> simp_all
    rw [hadd]; exact h j v hj)
  rw [hl] at hc
  simp only [Instr.loadAt, Instr.sureAddr, Sem.run_bind, Sem.run_pure, Result.andThen_ok, loadVar, hagg, sizeOf, typeInfo]
  simp [e, hi, hc]
/-- one operation by hand -/
theorem wpList_load_at {P : Program} {ops : Array Oper} {rest : List Oper} {o : Oper} {a : Act} {w : World} {Q : Exit → Act → World → Prop} {T : TypeId} {x : Operand} {p v : Value} (hgd : o.guard = none) (ho : o.op = .load T x) (hx : a.eval x = p)
    (hr : Sem.run P (Instr.loadAt T p) w = .ok v w) (h : wpList P ops Q rest (a.put o.dst v) w) : wpList P ops Q (o :: rest) a w :=
  wpList_plain hgd fun _ hK => by
    unfold Oper.wp execOp
    simp only [ho, hx, Sem.run_bind, hr, Result.andThen_ok, Sem.run_pure]
    exact hK _ _ h
theorem wpList_index_at {P : Program} {ops : Array Oper} {rest : List Oper} {o : Oper} {a : Act} {w : World} {Q : Exit → Act → World → Prop} {T : TypeId} {x y : Operand} {p q v : Value} (hgd : o.guard = none) (ho : o.op = .index T x y) (hx : a.eval x = p) (hy : a.eval y = q)
    (hr : Sem.run P (Instr.index T p q) w = .ok v w) (h : wpList P ops Q rest (a.put o.dst v) w) : wpList P ops Q (o :: rest) a w :=
  wpList_plain hgd fun _ hK => by
    unfold Oper.wp execOp
    simp only [ho, hx, hy, Sem.run_bind, hr, Result.andThen_ok, Sem.run_pure]
    exact hK _ _ h
theorem index41 {W : World} {WS : List Value} {k : Nat} {v : Value} (hk : WS[k]? = some v) (hl : WS.length = 41) :
    Sem.run Tryz.prog (Instr.index 50 (.agg WS.toArray) (.int .i64 (k : Int))) W = .ok v W := by
  have hlt : k < 41 := by rw [← hl]; exact (List.getElem?_eq_some_iff.1 hk).1
  have hu := Tryz.underlying50
  have hu2 := Tryz.underlying27
  obtain ⟨i, e, hi⟩ := info_sl1
  have h0 : (0 : Int) ≤ k ∧ (k : Int) < (41 : Nat) := by omega
  have hagg : (isAgg 27).run Tryz.prog W = .ok false W := by
    unfold isAgg
    rw [Sem.run_bind, run_underlying hu2 W]
    rfl
  simp only [Instr.index, asIntOf, Sem.run_bind, Sem.run_pure, Result.andThen_ok, run_underlying hu W]
  rw [if_pos h0]
  simp [part, hagg, sizeOf, typeInfo, e, hi, hk, Sem.run_bind]
theorem results_ctv {fn : Func} {p u : Tmp} {ty : TypeId} (h : fn.results = #[.cell p ty, .tmp u]) (tmps : Array Value) (P : Program) (w : World) (q : Addr) (v : Value)
    (hp : tmps[p]?.getD undef = .pointer (some q)) (hl : (loadVar ty q).run P w = .ok v w) : (results fn tmps).run P w = .ok (.tuple #[v, tmps[u]?.getD undef]) w := by
  simp [results, h, hp, asAddr, hl]
theorem load_gr {w : World} {R : Nat} {a b : Value} (h : Arr w R 24 [a, b]) : (loadVar 24 ⟨R, 0, none⟩).run Tryz.prog w = .ok (.agg #[a, b]) w := by
  obtain ⟨i, hi, hz, hs, hb⟩ := info_parts info_gr5
  exact run_loadVar_row w R _ _ _ _ _ h Tryz.underlying24 rfl (by rw [hi]; show some i.size = _; rw [hs]; rfl)
/-- one queue of the state is cut -/
theorem SI.cut {gS : Nat} {w w' : World} {s : St} {p : SP} (h : SI gS w s p) {k : Nat} {v u : Value} {g : Gd} {gl : List Gd} {ps : List GV} (hv : p.WS[k]? = some v) (hgs : s.2[k]? = some (g :: gl)) (hq : QA 24 2 eG 0 w u ps) (hpa : Al w ps gl) (hb : sBlk u = sBlk v)
    (hd : Arr w' gS 52 (.map (some p.m1) :: .map (some p.m2) :: p.vC :: p.WS.set k u)) (hf : ∀ b, b ≠ gS → b < w.heap.size → w'.heap[b]? = w.heap[b]?) (hz : w.heap.size ≤ w'.heap.size) : SI gS w' (s.1, s.2.set k gl) { p with WS := p.WS.set k u } := by
  have kf : Kf gS p w w' := ⟨hz, fun b h1 h2 => hf b (fun e => h2 (.inl e)) h1⟩
  have hgt : ∀ {b cs t fr}, w.heap[b]? = some (.cells cs t fr) → t = 24 → b ≠ gS := fun {b cs t fr} e ht e2 => by
    subst e2; subst ht
    have e3 : w.heap[b]? = _ := h.hd
    have e4 := e.symm.trans e3
    injection e4 with e4
    injection e4 with _ e4 _
    exact absurd e4 (by decide)
  have hqk : ∀ {e : Value} {ps : List GV}, QA 24 2 eG 0 w e ps → QA 24 2 eG 0 w' e ps := fun q => q.keepK fun b hb2 => by
    obtain ⟨cs, fr, e1⟩ := q.typ b hb2
    exact hf b (hgt e1 rfl) (q.lt b hb2)
  have n1 : p.m1 ≠ gS := fun e => by
    obtain ⟨es, e1, _⟩ := h.mp1
    have e2 : w.heap[gS]? = _ := h.hd
    rw [e] at e1
    have e3 := e1.symm.trans e2
    cases e3
  have n2 : p.m2 ≠ gS := fun e => by
    obtain ⟨es, e1, _⟩ := h.mp2
    have e2 : w.heap[gS]? = _ := h.hd
    rw [e] at e1
    have e3 := e1.symm.trans e2
    cases e3
  have hkl : k < p.WS.length := (List.getElem?_eq_some_iff.1 hv).1
  have hk2 : k < s.2.length := (List.getElem?_eq_some_iff.1 hgs).1
  obtain ⟨cs, q1, q2⟩ := h.cls
  refine ⟨hd, by simpa using h.wl, by simpa using h.w2, h.ne, h.mp1.keep (hf _ n1 h.mp1.lt), h.mp2.keep (hf _ n2 h.mp2.lt), ⟨h.al1.1, fun i q e h1 h2 => ⟨(h.al1.2 i q e h1 h2).1, kf.moves h (h.al1.2 i q e h1 h2).2⟩⟩, ⟨cs, hqk q1, q2.imp (kf.gv h)⟩, ?_, ?_, ?_⟩
  · intro i v' gs' h1 h2
    by_cases e : i = k
    · subst e
      simp only at h1 h2
      rw [List.getElem?_set_self hkl] at h1
      rw [List.getElem?_set_self hk2] at h2
      injection h1 with h1; injection h2 with h2
      subst h1; subst h2
      exact ⟨ps, hqk hq, hpa.imp (kf.gv h)⟩
    · simp only at h1 h2
      rw [List.getElem?_set_ne (Ne.symm e)] at h1 h2
      obtain ⟨ps', a, b⟩ := h.wt i v' gs' h1 h2
      exact ⟨ps', hqk a, b.imp (kf.gv h)⟩
  · intro i v' b h1 h2
    simp only at h1 ⊢
    by_cases e : i = k
    · subst e
      rw [List.getElem?_set_self hkl] at h1
      injection h1 with h1
      subst h1
      rw [hb] at h2
      exact h.ap1 i v b hv h2
    · rw [List.getElem?_set_ne (Ne.symm e)] at h1
      exact h.ap1 i v' b h1 h2
  · intro i j v' u' b h1 h2 hij h3
    simp only at h1 h2
    by_cases e : i = k
    · subst e
      rw [List.getElem?_set_self hkl] at h1
      injection h1 with h1
      subst h1
      rw [List.getElem?_set_ne hij] at h2
      rw [hb] at h3
      exact h.ap2 i j v u' b hv h2 hij h3
    · rw [List.getElem?_set_ne (Ne.symm e)] at h1
      by_cases e2 : j = k
      · subst e2
        rw [List.getElem?_set_self hkl] at h2
        injection h2 with h2
        subst h2
        rw [hb]
        exact h.ap2 i j v' v b h1 hv hij h3
      · rw [List.getElem?_set_ne (Ne.symm e2)] at h2
        exact h.ap2 i j v' u' b h1 h2 hij h3
/-- what next leaves -/
def NxtP (B gS : Nat) (p : SP) (s : St) (w : World) (e : Ending) (w' : World) : Prop :=
  (nextM s.2 = none ∧ e = .returned (.tuple #[.agg #[.slice none 0 0, .slice none 0 0], .bool false]) ∧ Below w.heap.size w w') ∨
  ∃ g W' q p', nextM s.2 = some (g, W') ∧ e = .returned (.tuple #[.agg #[sv q.1, sv q.2], .bool true]) ∧ GvI w' q g ∧ SI gS w' (s.1, W') p' ∧ Below B w w' ∧ Kf gS p w w' ∧ ∀ b, Ow gS p' b → Ow gS p b
set_option maxHeartbeats 2000000 in
set_option maxRecDepth 100000 in
theorem next_any (B gS : Nat) (p : SP) (s : St) (w : World) (hs : SI gS w s p) (hp : StP s) (hB : ∀ b, Ow gS p b → B ≤ b) (hBw : B ≤ w.heap.size) :
    Calls Tryz.prog 36 #[.pointer (some ⟨gS, 0, none⟩)] w (NxtP B gS p s w) := by
  obtain ⟨m1, m2, vC, WS, L1, k1, k2⟩ := p
  have HS := Lib.hid hs
  have HP := Lib.hid hp
  have HB := Lib.hid hB
  have HBW := Lib.hid hBw
  have HWL := Lib.hid (show WS.length = 41 from hs.wl)
  have HW2 := Lib.hid hs.w2
  have hgS := hs.hd.lt
  clear hs hp hB hBw
  go_enter Tryz.func36, Tryz.ntmps36
  go_upto_region 1 with fail
  have hal := (Below.refl w.heap.size w).alloc (Nat.le_refl _) (.cells #[.slice none 0 0, .slice none 0 0] 24)
  have HB1 := Lib.hid hal
  have HR1 := Lib.hid (show Arr (w.alloc (.cells #[.slice none 0 0, .slice none 0 0] 24)) w.heap.size 24 [.slice none 0 0, .slice none 0 0] from Arr.new w _ [_, _])
  obtain ⟨w1, hw1⟩ : ∃ W', W' = w.alloc (.cells #[.slice none 0 0, .slice none 0 0] 24) := ⟨_, rfl⟩
  rw [← hw1] at HB1 HR1 ⊢
  have HS1 := Lib.hid (HS.out.below HB1.out)
  clear hal hw1
  have yld := load41 (w := w1) (gS := gS) HWL.out (fun j v hj => (HS1.out.hd.cell (3 + j)).trans (by rw [show 3 + j = j + 1 + 1 + 1 by omega]; exact hj))
  go_wp2_with (refine wpList_load_at rfl rfl rfl yld ?_)
  clear yld
  go_loopg [10] 41 (fun gk s10 wr => ∃ k : Nat, k ≤ 41 ∧ gk = 41 - k ∧ s10 = .int .i64 (k : Int) ∧ wr = w1 ∧ Hid (∀ i, i < k → s.2[i]? = some []))
  case atStart => exact ⟨0, by omega, rfl, rfl, rfl, Lib.hid (fun i hi => by omega)⟩
  case round =>
    obtain ⟨k, hk, rfl, rfl, rfl, HE⟩ := hrel
    by_cases hlt : k < 41
    · have z1 : (k : Int) < 41 := by omega
      have hkW : k < WS.length := by rw [HWL.out]; exact hlt
      have hk2 : k < s.2.length := by rw [HW2.out]; exact hlt
      obtain ⟨v, hv⟩ : ∃ v, WS[k]? = some v := ⟨_, List.getElem?_eq_getElem hkW⟩
      obtain ⟨gs, hgs⟩ : ∃ v, s.2[k]? = some v := ⟨_, List.getElem?_eq_getElem hk2⟩
      obtain ⟨ps, hq, hpa⟩ := HS.out.wt k v gs hv hgs
      have hpl := hpa.len
      obtain ⟨A, c, hvv⟩ := hq.form
      have yix := index41 (W := wr) hv HWL.out
      rw [hvv] at yix
      have HGS := Lib.hid hgs
      have HV := Lib.hid hv
      have HQ := Lib.hid hq
      have HPA := Lib.hid hpa
      have HVV := Lib.hid hvv
      clear hq hpa hgs hv hvv hkW hk2 hlt
      cases hps : ps with
      | nil =>
        subst hps
        have HGN := Lib.hid (show gs = [] from List.eq_nil_of_length_eq_zero hpl.symm)
        clear hpl
        go_wp2_with (refine wpList_index_at rfl rfl rfl rfl yix ?_)
        go_roundg (41 - (k + 1))
        case measure => omega
        case rel => exact ⟨k + 1, by omega, rfl, by go_num, rfl, Lib.hid (fun i hi => by
          by_cases e : i = k
          · subst e; rw [HGS.out, HGN.out]
          · exact HE.out i (by omega))⟩
      | cons q ps' =>
        subst hps
        obtain ⟨g, gl, hgl⟩ : ∃ g gl, gs = g :: gl := by
          cases gs with
          | nil => simp at hpl
          | cons g gl => exact ⟨g, gl, rfl⟩
        subst hgl
        obtain ⟨g0, o, c', e0, hb0, hcell, hcut⟩ := QA.cons (e := 24) (sz := 2) (enc := eG) (fun _ => rfl) HQ.out
        have e1 := HVV.out.symm.trans e0
        injection e1 with e1 e2 e3
        subst e1; subst e3
        have HCUT := Lib.hid hcut
        have HGV := Lib.hid (show GvI w q g from HPA.out.1)
        have HNX := Lib.hid (nextM_some k s.2 HE.out HGS.out)
        have hg0l := HQ.out.lt g0 (by rw [HVV.out]; rfl)
        have q0 := (World.cell?_of_block (HB1.out.block g0 hg0l)).trans (hcell 0 (sv q.1) rfl)
        have q1 := (World.cell?_of_block (HB1.out.block g0 hg0l)).trans (hcell 1 (sv q.2) rfl)
        have gc := (HS1.out.hd.cell (3 + k)).trans (show _ = some v by rw [show 3 + k = k + 1 + 1 + 1 by omega]; exact HV.out)
        have gf := HS1.out.hd.frozen (3 + k)
        have r0 := HR1.out.cell 0
        have r1 := HR1.out.cell 1
        have f0 := HR1.out.frozen 0
        have f1 := HR1.out.frozen 1
        clear e0 e2 hcell hcut hb0 hpl
        simp only [List.length_cons] at yix ⊢
        have HG0 := Lib.hid (show g0 ≠ gS from fun e => by
          obtain ⟨cs0, fr0, e1⟩ := HQ.out.typ g0 (by rw [HVV.out]; rfl)
          have e2 : w.heap[gS]? = _ := HS.out.hd
          rw [e] at e1
          have e3 := e1.symm.trans e2
          injection e3 with e3
          injection e3 with _ e3 _
          exact absurd e3 (by decide))
        have HGL := Lib.hid hgS
        have HQ0 := Lib.hid q0
        have HQ1 := Lib.hid q1
        clear q0 q1 r0 r1 f0 f1 hgS
        go_upto_region 5 with (refine wpList_index_at rfl rfl rfl rfl yix ?_)
        clear yix
        by_cases hc0 : c' = 0
        · subst hc0
          go_region
          have HU := Lib.hid (HCUT.out (some ⟨g0, o, none⟩) (.inl ⟨rfl, rfl⟩))
          obtain ⟨u, hu⟩ : ∃ u : Value, u = .slice (some ⟨g0, o, none⟩) ps'.length 0 := ⟨_, rfl⟩
          have HSB := Lib.hid (show sBlk u = sBlk v by rw [hu, HVV.out]; rfl)
          rw [← hu] at HU ⊢
          clear hu
          have hlt0 : gS < w.heap.size := HGL.out
          have HA := Lib.hid (show Arr (wr.setCell ⟨gS, 3 + k, none⟩ u).drew gS 52 (.map (some m1) :: .map (some m2) :: vC :: WS.set k u) from by
            have := HS1.out.hd.set (3 + k) u
            rw [show 3 + k = k + 1 + 1 + 1 by omega] at this ⊢
            exact this)
          have HF := Lib.hid (fun (b : Nat) (hb : b ≠ gS) => show (wr.setCell ⟨gS, 3 + k, none⟩ u).drew.heap[b]? = wr.heap[b]? from Below.heap_setCell wr ⟨gS, 3 + k, none⟩ u b (fun e => hb e))
          have HZ := Lib.hid (show (wr.setCell ⟨gS, 3 + k, none⟩ u).drew.heap.size = wr.heap.size from by simp)
          have HBB := Lib.hid (show Below B wr (wr.setCell ⟨gS, 3 + k, none⟩ u).drew from ((Below.refl B wr).setCell (p := ⟨gS, 3 + k, none⟩) (HB.out gS (.inl rfl)) u).drew)
          generalize (wr.setCell ⟨gS, 3 + k, none⟩ u).drew = w5 at HA HF HZ HBB ⊢
          have hR5 : Arr w5 w.heap.size 24 [.slice none 0 0, .slice none 0 0] := (HF.out _ (by omega)).trans HR1.out
          have hg0 : g0 ≠ gS := HG0.out
          have q0 : w5.cell? ⟨g0, o, none⟩ = some (sv q.1) := (World.cell?_of_block (HF.out g0 hg0)).trans HQ0.out
          have q1 : w5.cell? ⟨g0, o + 1, none⟩ = some (sv q.2) := (World.cell?_of_block (HF.out g0 hg0)).trans HQ1.out
          have r0 := hR5.cell 0
          have r1 := hR5.cell 1
          have f0 := hR5.frozen 0
          have f1 := hR5.frozen 1
          clear hlt0 hg0
          simp only [sv] at q0 q1
          go_wp2_with fail
          have a2 := (hR5.set 0 (sv q.1)).set 1 (sv q.2)
          have HW9 := Lib.hid (show ∀ b, b ≠ w.heap.size → ((w5.setCell ⟨w.heap.size, 0, none⟩ (sv q.1)).setCell ⟨w.heap.size, 1, none⟩ (sv q.2)).heap[b]? = w5.heap[b]? from fun b hb => (Below.heap_setCell _ ⟨w.heap.size, 1, none⟩ _ b (fun e => hb e)).trans (Below.heap_setCell _ ⟨w.heap.size, 0, none⟩ _ b (fun e => hb e)))
          have HZ9 := Lib.hid (show ((w5.setCell ⟨w.heap.size, 0, none⟩ (sv q.1)).setCell ⟨w.heap.size, 1, none⟩ (sv q.2)).heap.size = w5.heap.size by simp)
          have HB9 := Lib.hid (((Below.refl B w5).setCell (p := ⟨w.heap.size, 0, none⟩) HBW.out (sv q.1)).setCell (p := ⟨w.heap.size, 1, none⟩) HBW.out (sv q.2))
          simp only [sv] at a2 HW9 HZ9 HB9
          generalize (w5.setCell ⟨w.heap.size, 0, none⟩ (.slice q.1.1 q.1.2.1 q.1.2.2)).setCell ⟨w.heap.size, 1, none⟩ (.slice q.2.1 q.2.2.1 q.2.2.2) = w9 at a2 HW9 HZ9 HB9 ⊢
          refine bodyPost_ret (results_ctv rfl _ _ _ ⟨w.heap.size, 0, none⟩ _ rfl (load_gr a2)) rfl ?_
          have hff : ∀ b, b ≠ gS → b < w.heap.size → w9.heap[b]? = w.heap[b]? := fun b h1 h2 => ((HW9.out b (by omega)).trans (HF.out b h1)).trans (HB1.out.block b h2)
          have hzz : w.heap.size ≤ w9.heap.size := by have := HZ9.out; have := HZ.out; have := HB1.out.size; omega
          have hA9 : Arr w9 gS 52 (.map (some m1) :: .map (some m2) :: vC :: WS.set k u) := (HW9.out gS (by have := HGL.out; omega)).trans HA.out
          have hff1 : ∀ b, b ≠ gS → b < wr.heap.size → b ≠ w.heap.size → w9.heap[b]? = wr.heap[b]? := fun b h1 h2 h3 => (HW9.out b h3).trans (HF.out b h1)
          refine .inr ⟨g, _, q, _, HNX.out, rfl, ?_, SI.cut (w := w) (ps := ps') HS.out HV.out HGS.out ?_ ?_ HSB.out hA9 hff hzz, ?_, ⟨hzz, fun b h1 h2 => hff b (fun e => h2 (.inl e)) h1⟩, ?_⟩
          · exact Kf.gv (p := ⟨m1, m2, vC, WS, L1, k1, k2⟩) ⟨hzz, fun b h1 h2 => hff b (fun e => h2 (.inl e)) h1⟩ HS.out q g HGV.out
          · exact HU.out
          · exact HPA.out.2
          · exact ((HB1.out.mono HBW.out).trans HBB.out).trans HB9.out
          · intro b hb
            rcases hb with e | e | e | e | ⟨x, hx, e⟩
            · exact .inl e
            · exact .inr (.inl e)
            · exact .inr (.inr (.inl e))
            · exact .inr (.inr (.inr (.inl e)))
            · rcases List.mem_or_eq_of_mem_set hx with h | h
              · exact .inr (.inr (.inr (.inr ⟨x, h, e⟩)))
              · subst h
                exact .inr (.inr (.inr (.inr ⟨v, List.mem_of_getElem? HV.out, HSB.out ▸ e⟩)))
        · go_region
          have HU := Lib.hid (HCUT.out (some ⟨g0, o + 2, none⟩) (.inr rfl))
          obtain ⟨u, hu⟩ : ∃ u : Value, u = .slice (some ⟨g0, o + 2, none⟩) ps'.length c' := ⟨_, rfl⟩
          have HSB := Lib.hid (show sBlk u = sBlk v by rw [hu, HVV.out]; rfl)
          rw [← hu] at HU ⊢
          clear hu
          have hlt0 : gS < w.heap.size := HGL.out
          have HA := Lib.hid (show Arr (wr.setCell ⟨gS, 3 + k, none⟩ u).drew gS 52 (.map (some m1) :: .map (some m2) :: vC :: WS.set k u) from by
            have := HS1.out.hd.set (3 + k) u
            rw [show 3 + k = k + 1 + 1 + 1 by omega] at this ⊢
            exact this)
          have HF := Lib.hid (fun (b : Nat) (hb : b ≠ gS) => show (wr.setCell ⟨gS, 3 + k, none⟩ u).drew.heap[b]? = wr.heap[b]? from Below.heap_setCell wr ⟨gS, 3 + k, none⟩ u b (fun e => hb e))
          have HZ := Lib.hid (show (wr.setCell ⟨gS, 3 + k, none⟩ u).drew.heap.size = wr.heap.size from by simp)
          have HBB := Lib.hid (show Below B wr (wr.setCell ⟨gS, 3 + k, none⟩ u).drew from ((Below.refl B wr).setCell (p := ⟨gS, 3 + k, none⟩) (HB.out gS (.inl rfl)) u).drew)
          generalize (wr.setCell ⟨gS, 3 + k, none⟩ u).drew = w5 at HA HF HZ HBB ⊢
          have hR5 : Arr w5 w.heap.size 24 [.slice none 0 0, .slice none 0 0] := (HF.out _ (by omega)).trans HR1.out
          have hg0 : g0 ≠ gS := HG0.out
          have q0 : w5.cell? ⟨g0, o, none⟩ = some (sv q.1) := (World.cell?_of_block (HF.out g0 hg0)).trans HQ0.out
          have q1 : w5.cell? ⟨g0, o + 1, none⟩ = some (sv q.2) := (World.cell?_of_block (HF.out g0 hg0)).trans HQ1.out
          have r0 := hR5.cell 0
          have r1 := hR5.cell 1
          have f0 := hR5.frozen 0
          have f1 := hR5.frozen 1
          clear hlt0 hg0
          simp only [sv] at q0 q1
          go_wp2_with fail
          have a2 := (hR5.set 0 (sv q.1)).set 1 (sv q.2)
          have HW9 := Lib.hid (show ∀ b, b ≠ w.heap.size → ((w5.setCell ⟨w.heap.size, 0, none⟩ (sv q.1)).setCell ⟨w.heap.size, 1, none⟩ (sv q.2)).heap[b]? = w5.heap[b]? from fun b hb => (Below.heap_setCell _ ⟨w.heap.size, 1, none⟩ _ b (fun e => hb e)).trans (Below.heap_setCell _ ⟨w.heap.size, 0, none⟩ _ b (fun e => hb e)))
          have HZ9 := Lib.hid (show ((w5.setCell ⟨w.heap.size, 0, none⟩ (sv q.1)).setCell ⟨w.heap.size, 1, none⟩ (sv q.2)).heap.size = w5.heap.size by simp)
          have HB9 := Lib.hid (((Below.refl B w5).setCell (p := ⟨w.heap.size, 0, none⟩) HBW.out (sv q.1)).setCell (p := ⟨w.heap.size, 1, none⟩) HBW.out (sv q.2))
          simp only [sv] at a2 HW9 HZ9 HB9
          generalize (w5.setCell ⟨w.heap.size, 0, none⟩ (.slice q.1.1 q.1.2.1 q.1.2.2)).setCell ⟨w.heap.size, 1, none⟩ (.slice q.2.1 q.2.2.1 q.2.2.2) = w9 at a2 HW9 HZ9 HB9 ⊢
          refine bodyPost_ret (results_ctv rfl _ _ _ ⟨w.heap.size, 0, none⟩ _ rfl (load_gr a2)) rfl ?_
          have hff : ∀ b, b ≠ gS → b < w.heap.size → w9.heap[b]? = w.heap[b]? := fun b h1 h2 => ((HW9.out b (by omega)).trans (HF.out b h1)).trans (HB1.out.block b h2)
          have hzz : w.heap.size ≤ w9.heap.size := by have := HZ9.out; have := HZ.out; have := HB1.out.size; omega
          have hA9 : Arr w9 gS 52 (.map (some m1) :: .map (some m2) :: vC :: WS.set k u) := (HW9.out gS (by have := HGL.out; omega)).trans HA.out
          have hff1 : ∀ b, b ≠ gS → b < wr.heap.size → b ≠ w.heap.size → w9.heap[b]? = wr.heap[b]? := fun b h1 h2 h3 => (HW9.out b h3).trans (HF.out b h1)
          refine .inr ⟨g, _, q, _, HNX.out, rfl, ?_, SI.cut (w := w) (ps := ps') HS.out HV.out HGS.out ?_ ?_ HSB.out hA9 hff hzz, ?_, ⟨hzz, fun b h1 h2 => hff b (fun e => h2 (.inl e)) h1⟩, ?_⟩
          · exact Kf.gv (p := ⟨m1, m2, vC, WS, L1, k1, k2⟩) ⟨hzz, fun b h1 h2 => hff b (fun e => h2 (.inl e)) h1⟩ HS.out q g HGV.out
          · exact HU.out
          · exact HPA.out.2
          · exact ((HB1.out.mono HBW.out).trans HBB.out).trans HB9.out
          · intro b hb
            rcases hb with e | e | e | e | ⟨x, hx, e⟩
            · exact .inl e
            · exact .inr (.inl e)
            · exact .inr (.inr (.inl e))
            · exact .inr (.inr (.inr (.inl e)))
            · rcases List.mem_or_eq_of_mem_set hx with h | h
              · exact .inr (.inr (.inr (.inr ⟨x, h, e⟩)))
              · subst h
                exact .inr (.inr (.inr (.inr ⟨v, List.mem_of_getElem? HV.out, HSB.out ▸ e⟩)))
    · have z1 : ¬ (k : Int) < 41 := by omega
      have y0 := HR1.out.cell 0
      have y1 := HR1.out.cell 1
      have f0 := HR1.out.frozen 0
      have f1 := HR1.out.frozen 1
      go_wp2_with fail
      have a2 := (HR1.out.set 0 (.slice none 0 0)).set 1 (.slice none 0 0)
      have b2 := (HB1.out.setCell (p := ⟨w.heap.size, 0, none⟩) (Nat.le_refl _) (.slice none 0 0)).setCell (p := ⟨w.heap.size, 1, none⟩) (Nat.le_refl _) (.slice none 0 0)
      generalize (wr.setCell { block := w.heap.size, off := 0 } (Value.slice none 0 0)).setCell { block := w.heap.size, off := 1 } (Value.slice none 0 0) = w9 at a2 b2 ⊢
      refine bodyPost_ret (results_ctv rfl _ _ _ ⟨w.heap.size, 0, none⟩ _ rfl (load_gr a2)) rfl ?_
      refine .inl ⟨nextM_none _ fun x hx => ?_, rfl, b2⟩
      obtain ⟨i, hi⟩ := List.getElem?_of_mem hx
      have := (List.getElem?_eq_some_iff.1 hi).1
      have h41 := HW2.out
      rw [HE.out i (by omega)] at hi
      injection hi with hi
      exact hi.symm
end Go.Proofs.YteliflcbegcdlaaGreatDoor

namespace Go.Proofs.YteliflcbegcdlaaGreatDoor
open Go.RowKit
set_option linter.unusedVariables false
/-- block g holds cells of type e, the first of which are xs -/
def RowV (e : TypeId) (g : Nat) (w : World) (xs : List Value) : Prop := ∃ cur : Array Value, w.heap[g]? = some (.cells cur e (0, 0)) ∧ ∀ (i : Nat) x, xs[i]? = some x → cur[i]? = some x
section
variable {e : TypeId} {g : Nat} {w w' : World} {xs : List Value}
theorem RowV.cell (h : RowV e g w xs) {i : Nat} {x : Value} (hx : xs[i]? = some x) : w.cell? ⟨g, i, none⟩ = some x := by
  obtain ⟨cur, h1, h2⟩ := h
  rw [cell_of_row w g _ cur e (0, 0) h1]
  exact h2 i x hx
theorem RowV.frozen (h : RowV e g w xs) (i : Nat) : w.frozen? ⟨g, i, none⟩ = false := by
  obtain ⟨cur, h1, _⟩ := h
  exact frozen_of_row w g _ cur e h1
theorem RowV.set (h : RowV e g w xs) {i : Nat} (hi : i < xs.length) (v : Value) : RowV e g (w.setCell ⟨g, i, none⟩ v) (xs.set i v) := by
  obtain ⟨cur, h1, h2⟩ := h
  have hlt : i < cur.size := (Array.getElem?_eq_some_iff.1 (h2 i _ (List.getElem?_eq_getElem hi))).1
  refine ⟨_, heap_setCell_same w g i cur e v h1, fun j x hj => ?_⟩
  by_cases ej : i = j
  · subst ej
    rw [List.getElem?_set_self hi] at hj
    injection hj with hj
    rw [Array.getElem?_setIfInBounds, if_pos rfl, if_pos hlt, hj]
  · rw [List.getElem?_set_ne ej] at hj
    rw [Array.getElem?_setIfInBounds, if_neg ej]
    exact h2 j x hj
theorem RowV.drew (h : RowV e g w xs) : RowV e g w.drew xs := h
theorem RowV.keep (h : RowV e g w xs) (hk : w'.heap[g]? = w.heap[g]?) : RowV e g w' xs := by
  obtain ⟨cur, h1, h2⟩ := h
  exact ⟨cur, hk.trans h1, h2⟩
theorem RowV.lt (h : RowV e g w xs) : g < w.heap.size := by
  obtain ⟨cur, h1, _⟩ := h
  exact (Array.getElem?_eq_some_iff.1 h1).1
end
/-- the first t and the last t have changed places -/
def rvV (xs : List Value) (t : Nat) : List Value := (List.range xs.length).map fun i => if i < t ∨ xs.length - t ≤ i then xs.getD (xs.length - 1 - i) undef else xs.getD i undef
theorem rvV_length (xs : List Value) (t : Nat) : (rvV xs t).length = xs.length := by simp [rvV]
theorem rvV_get {xs : List Value} {t i : Nat} (h : i < xs.length) : (rvV xs t)[i]? = some (if i < t ∨ xs.length - t ≤ i then xs.getD (xs.length - 1 - i) undef else xs.getD i undef) := by
  unfold rvV; rw [List.getElem?_map, List.getElem?_range h]; rfl
theorem getD_get {xs : List Value} {i : Nat} (h : i < xs.length) : xs.getD i undef = xs[i] := by simp [List.getD_eq_getElem?_getD, h]
theorem rvV_zero (xs : List Value) : rvV xs 0 = xs := by
  apply List.ext_getElem?
  intro i
  by_cases h : i < xs.length
  · rw [rvV_get h, if_neg (by omega), getD_get h, List.getElem?_eq_getElem h]
  · rw [List.getElem?_eq_none (by rw [rvV_length]; omega), List.getElem?_eq_none (by omega)]
theorem rvV_end {xs : List Value} {t : Nat} (h : xs.length ≤ 2 * t + 1) : rvV xs t = xs.reverse := by
  apply List.ext_getElem?
  intro i
  by_cases hi : i < xs.length
  · rw [rvV_get hi, List.getElem?_reverse hi, List.getElem?_eq_getElem (show xs.length - 1 - i < xs.length by omega), ← getD_get (show xs.length - 1 - i < xs.length by omega)]
    by_cases e : i < t ∨ xs.length - t ≤ i
    · rw [if_pos e]
    · rw [if_neg e, show xs.length - 1 - i = i by omega]
  · rw [List.getElem?_eq_none (by rw [rvV_length]; omega), List.getElem?_eq_none (by simp; omega)]
theorem rvV_step {xs : List Value} {t : Nat} (h : t + 1 + t < xs.length) : ((rvV xs t).set t (xs.getD (xs.length - 1 - t) undef)).set (xs.length - 1 - t) (xs.getD t undef) = rvV xs (t + 1) := by
  apply List.ext_getElem?
  intro i
  by_cases hi : i < xs.length
  · rw [rvV_get hi]
    by_cases e1 : xs.length - 1 - t = i
    · subst e1
      rw [List.getElem?_set_self (by simp [rvV_length]; omega), if_pos (by omega), show xs.length - 1 - (xs.length - 1 - t) = t by omega]
    · rw [List.getElem?_set_ne e1]
      by_cases e2 : t = i
      · subst e2
        rw [List.getElem?_set_self (by rw [rvV_length]; omega), if_pos (by omega)]
      · rw [List.getElem?_set_ne e2, rvV_get hi]
        by_cases e3 : i < t ∨ xs.length - t ≤ i
        · rw [if_pos e3, if_pos (by omega)]
        · rw [if_neg e3, if_neg (by omega)]
  · rw [List.getElem?_eq_none (by simp [rvV_length]; omega), List.getElem?_eq_none (by rw [rvV_length]; omega)]
set_option maxHeartbeats 2000000 in
set_option maxRecDepth 100000 in
theorem reverse_any (e : TypeId) (B g c : Nat) (xs : List Value) (w : World) (h : RowV e g w xs) (hB : B ≤ g) (hl : xs.length ≤ 1000000000) (hsl : ∀ x ∈ xs, IsSl x) :
    Calls Tryz.prog 51 #[.slice (some ⟨g, 0, none⟩) xs.length c] w fun e' w' => e' = .returned (.tuple #[]) ∧ RowV e g w' xs.reverse ∧ Below B w w' := by
  obtain ⟨n, hn⟩ : ∃ n, n = xs.length := ⟨_, rfl⟩
  rw [← hn] at hl ⊢
  have HN := Lib.hid hn
  have HB := Lib.hid hB
  have HR := Lib.hid h
  have HSL := Lib.hid (fun i (hi : i < xs.length) => show IsSl (xs.getD i undef) from by rw [getD_get hi]; exact hsl _ (List.getElem_mem hi))
  clear hn hB h hsl
  go_enter Tryz.func51, Tryz.ntmps51
  go_wp2_with fail
  go_loopg [2, 3] (n + 1) (fun gk s2 s3 wr => ∃ t : Nat, t ≤ n ∧ gk = n + 1 - t ∧ s2 = .int .i64 (t : Int) ∧ s3 = .int .i64 ((n : Int) - 1 - t) ∧ Hid (RowV e g wr (rvV xs t)) ∧ Hid (Below B w wr))
  case atStart => exact ⟨0, by omega, rfl, rfl, by go_num, Lib.hid (by rw [rvV_zero]; exact HR.out), Lib.hid (Below.refl _ _)⟩
  case round =>
    obtain ⟨t, ht, rfl, rfl, rfl, H, HW⟩ := hrel
    by_cases hlt : t + 1 + t < n
    · have z1 : (t : Int) < (n : Int) - 1 - t := by omega
      have hxl : (rvV xs t).length = n := by rw [rvV_length, HN.out]
      have y0 := H.out.cell (i := t) (x := xs.getD t undef) (by rw [rvV_get (by have := HN.out; omega), if_neg (by have := HN.out; omega)])
      have y1 := H.out.cell (i := n - 1 - t) (x := xs.getD (n - 1 - t) undef) (by rw [rvV_get (by have := HN.out; omega), if_neg (by have := HN.out; omega)])
      have f0 := H.out.frozen t
      have f1 := H.out.frozen (n - 1 - t)
      have HS := Lib.hid (rvV_step (xs := xs) (t := t) (by have := HN.out; omega))
      obtain ⟨m, hm⟩ : ∃ m : Nat, m = n - 1 - t := ⟨_, rfl⟩
      rw [← HN.out, ← hm] at HS
      rw [← hm] at y1 f1
      have e1 : (n : Int) - 1 - t = (m : Int) := by omega
      have HMT := Lib.hid (show t < m ∧ m < n by omega)
      have z2 : (t : Int) < (n : Int) := by omega
      have z3 : (m : Int) < (n : Int) := by omega
      have z4 : ¬ t = m := by omega
      have z5 : ¬ m = t := by omega
      obtain ⟨x, hx⟩ : ∃ x, x = xs.getD t undef := ⟨_, rfl⟩
      obtain ⟨y, hy⟩ : ∃ y, y = xs.getD m undef := ⟨_, rfl⟩
      rw [← hx, ← hy] at HS
      rw [← hx] at y0
      rw [← hy] at y1
      have HXL := Lib.hid hxl
      obtain ⟨A0, n0, c0, hx0⟩ := HSL.out t (by have := HN.out; omega)
      obtain ⟨A1, n1, c1, hy0⟩ := HSL.out m (by have := HN.out; omega)
      rw [← hx] at hx0
      rw [← hy] at hy0
      clear hxl hx hy hm
      subst hx0; subst hy0
      rw [e1] at z1 ⊢
      go_upto_region 3 with fail
      go_region
      have a2 := ((H.out.set (i := t) (by have := HXL.out; omega) (.slice A1 n1 c1)).set (i := m) (by have := HXL.out; have := HMT.out; simp; omega) (.slice A0 n0 c0)).drew
      rw [HS.out] at a2
      have b2 := ((HW.out.setCell (p := ⟨g, t, none⟩) HB.out (.slice A1 n1 c1)).setCell (p := ⟨g, m, none⟩) HB.out (.slice A0 n0 c0)).drew
      have HA2 := Lib.hid a2
      have HB2 := Lib.hid b2
      clear a2 b2 y0 y1 f0 f1
      generalize ((wr.setCell ⟨g, t, none⟩ (.slice A1 n1 c1)).setCell ⟨g, m, none⟩ (.slice A0 n0 c0)).drew = w5 at HA2 HB2 ⊢
      go_wp2_with fail
      go_roundg (n + 1 - (t + 1))
      case measure => omega
      case rel =>
        have e : (m : Int) - 1 = (n : Int) - 1 - ((t + 1 : Nat) : Int) := by omega
        exact ⟨t + 1, by omega, rfl, by go_num, by rw [← e], HA2, HB2⟩
    · have z1 : ¬ (t : Int) < (n : Int) - 1 - t := by omega
      go_wp2_with fail
      refine bodyPost_end (results_none rfl _ _ _) rfl ?_
      refine ⟨rfl, ?_, HW.out⟩
      have := H.out
      rw [rvV_end (by have := HN.out; omega)] at this
      exact this
end Go.Proofs.YteliflcbegcdlaaGreatDoor
