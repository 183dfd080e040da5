/- unknot.neighbors: one try. -/
/- unknot.neighbors: the iterator. -/
/- unknot.neighbors: the iterator's walk. -/
/- unknot.neighbors: what its iterator tells. -/
import Derived.Test.YteliflcbegcdlaaGreatDoorZMrk
import Derived.Test.YteliflcbegcdlaaGreatDoorZFmb
import Derived.Test.YteliflcbegcdlaaGreatDoorZRtr
import Derived.Shelf.Abstract
import Derived.Shelf.RegionOpen
import Derived.WalkKit
import Derived.OwnWalkIn
import Derived.TacticsInMore
import Derived.LoopNIn
import Derived.LoopIn
namespace Go.Proofs.YteliflcbegcdlaaGreatDoor
open Go.RowKit Go.Shelf
set_option linter.unusedVariables false
attribute [local go_sem] Oper.semAt_some
/-- what a try ends with: tt: what holds after a round that goes on, xx: after one that ends -/
def TryR (g : Gd) (ms : List Mv) (W : World) (tt : World → World → Prop) (xx : World → Prop) (e : Ending) (W' : World) : Prop :=
  (tryM g ms = [] ∧ e = .returned (.bool true) ∧ Below W.heap.size W W') ∨
  (∃ g', tryM g ms = [(ms, g')] ∧ ((e = .returned (.bool true) ∧ ∃ W1, Below W.heap.size W W1 ∧ tt W1 W') ∨ (e = .returned (.bool false) ∧ xx W')))
set_option maxHeartbeats 4000000 in
set_option maxRecDepth 100000 in
theorem try_in (n l : Nat) (hn : 2 ≤ n) (gB gY : Nat) (A B : Option Addr) (nx c no d : Nat) (vm : Value) (ms : List Mv) (g : Gd) (W : World) (hB : Arr W gB 24 [.slice A nx c, .slice B no d]) (tY : TypeId) (hY : Arr W gY tY [.func (.yield l) #[] #[]])
    (hX : Ints W (.slice A nx c) g.1) (hO : Ints W (.slice B no d) g.2) (hv : Vd g.1 g.2) (hm : Moves W vm ms) (hms : ms.length ≤ 2) (tt : World → World → Prop) (xx : World → Prop)
    (hR : ∀ g' u W1, tryM g ms = [(ms, g')] → Below W.heap.size W W1 → GdI W1 u g' → YieldAt Fence.wide (n - 1) Tryz.prog l #[vm, u] W1 fun e W' => (e = .returned (.bool true) ∧ tt W1 W') ∨ (e = .returned (.bool false) ∧ xx W')) :
    CallsIn Fence.wide n Tryz.prog 48 #[vm, .pointer (some ⟨gB, 0, none⟩), .pointer (some ⟨gY, 0, none⟩)] W (TryR g ms W tt xx) := by
  obtain ⟨X, O⟩ := g
  dsimp only at hX hO hv
  have h40 := hv.most
  have hle := hv.len
  have HPL := Lib.hid (play_any (.slice A nx c) (.slice B no d) vm X O ms W hX hO hm (by omega) (by omega) (by omega))
  obtain ⟨r, hr⟩ : ∃ r, r = playM X O ms := ⟨_, rfl⟩
  rw [← hr] at HPL
  have HQB := Lib.hid (fun W' (hb : Below W.heap.size W W') => hB.below hb hB.lt)
  have HQY := Lib.hid (fun W' (hb : Below W.heap.size W W') => hY.below hb hY.lt)
  have HRR := Lib.hid hR
  have HTM := Lib.hid (show tryM (X, O) ms = if r.2.2.2 < 0 ∧ r.1 = 0 then [(ms, r.2.1, r.2.2.1)] else [] by unfold tryM; rw [hr])
  have y0 := hB.cell 0
  have y1 := hB.cell 1
  clear hX hO hv hm hR hr hB hY
  refine callsIn_of_wp Tryz.func48 rfl trivial ?_ rfl
  simp only [Tryz.ntmps48, List.size_toArray, List.length_cons, List.length_nil, Nat.reduceAdd, Nat.reduceSub, Array.replicate_succ, Array.replicate_zero, List.push_toArray, List.append_toArray, List.nil_append, List.cons_append]
  gi_wp2_with fail
  refine ⟨trivial, (fun h => by cases h), ((callsIn_wide (n := n - 1)).2 HPL.out).mono ?_⟩
  rintro e W4 ⟨hb4, A0, n0, c0, A1, n1, c1, rfl, i0, i1⟩
  have hal := (Below.refl W4.heap.size W4).alloc (Nat.le_refl _) (.cells #[.slice A0 n0 c0, .slice A1 n1 c1] 24)
  have HQ5 := Lib.hid (show Arr (W4.alloc (.cells #[.slice A0 n0 c0, .slice A1 n1 c1] 24)) W4.heap.size 24 [.slice A0 n0 c0, .slice A1 n1 c1] from Arr.new W4 _ [_, _])
  have HB5 := Lib.hid (hb4.trans (hal.mono hb4.size))
  have HI5 := Lib.hid (show GdI (W4.alloc (.cells #[.slice A0 n0 c0, .slice A1 n1 c1] 24)) (.agg #[.slice A0 n0 c0, .slice A1 n1 c1]) (r.2.1, r.2.2.1) from ⟨A0, n0, c0, A1, n1, c1, rfl, i0.below hal, i1.below hal⟩)
  clear hb4 hal i0 i1 y0 y1 HPL
  obtain ⟨at_, hat⟩ : ∃ x, x = r.2.2.2 := ⟨_, rfl⟩
  obtain ⟨er, her⟩ : ∃ x, x = r.1 := ⟨_, rfl⟩
  rw [← hat, ← her] at HTM ⊢
  obtain ⟨g', hg'⟩ : ∃ x : Gd, x = (r.2.1, r.2.2.1) := ⟨_, rfl⟩
  rw [← hg'] at HI5
  rw [show [(ms, r.2.1, r.2.2.1)] = [(ms, g')] by rw [hg']] at HTM
  clear hat her hg'
  by_cases h1 : at_ ≥ 0
  · have HT := Lib.hid (show tryM (X, O) ms = [] by rw [HTM.out, if_neg (by omega)])
    gi_wp2
    refine ⟨(fun f h => by cases h), ?_⟩
    gi_wp2
    go_ret
    exact .inl ⟨HT.out, rfl, HB5.out⟩
  by_cases h2 : er = 0
  · have z2 : (er != 0) = false := by simp [h2]
    have HT := Lib.hid (show tryM (X, O) ms = [(ms, g')] by rw [HTM.out, if_pos ⟨by omega, h2⟩])
    have y2 := (HQY.out _ HB5.out).cell 0
    have y3 := HQ5.out.cell 0
    have y4 := HQ5.out.cell 1
    obtain ⟨fn, tmps, assign, body, hy, hRd⟩ := HRR.out g' _ _ HT.out HB5.out HI5.out
    clear h2
    gi_wp2
    refine ⟨(fun h => by cases h), hRd.mono ?_⟩
    rintro e W6 (⟨rfl, h6⟩ | ⟨rfl, h6⟩)
    · have H6 := Lib.hid h6
      clear h6
      gi_wp2
      go_ret
      exact .inr ⟨g', HT.out, .inl ⟨rfl, _, HB5.out, H6.out⟩⟩
    · have H6 := Lib.hid h6
      clear h6
      gi_wp2
      go_ret
      exact .inr ⟨g', HT.out, .inr ⟨by have hz : decide (0 ≤ at_) = false := decide_eq_false (by omega); simp only [hz]; rfl, H6.out⟩⟩
  · have z2 : (er != 0) = true := by simp [h2]
    have HT := Lib.hid (show tryM (X, O) ms = [] by rw [HTM.out, if_neg (fun h => h2 h.2)])
    clear h2
    gi_wp2
    refine ⟨(fun f h => by cases h), ?_⟩
    gi_wp2
    go_ret
    exact .inl ⟨HT.out, rfl, HB5.out⟩
end Go.Proofs.YteliflcbegcdlaaGreatDoor

namespace Go.Proofs.YteliflcbegcdlaaGreatDoor
open Go.RowKit Go.Shelf
set_option linter.unusedVariables false
/-- what a round keeps: the box gB; integers, moves, functions -/
def KqT (t : TypeId) : Prop := t = 3 ∨ t = 94 ∨ t = 89
def Kq (l gB : Nat) (A B : World) : Prop :=
  A.heap.size ≤ B.heap.size ∧ (∀ b, b < A.heap.size → (b = gB ∨ (b ≠ l ∧ ∃ cs t fr, A.heap[b]? = some (.cells cs t fr) ∧ KqT t)) → B.heap[b]? = A.heap[b]?) ∧ ∀ v xs, Ints A v xs → Ints B v xs
theorem Kq.of_below {l gB : Nat} {A B : World} (h : Below A.heap.size A B) : Kq l gB A B := ⟨h.size, fun b hb _ => h.block b hb, fun _ _ k => k.below h⟩
theorem Kq.trans {l gB : Nat} {A B C : World} (h : Kq l gB A B) (k : Kq l gB B C) : Kq l gB A C :=
  ⟨Nat.le_trans h.1 k.1, fun b hb hc => (k.2.1 b (Nat.lt_of_lt_of_le hb h.1) (by
    rcases hc with hc | ⟨hn, cs, t, fr, hc, ht⟩
    · exact .inl hc
    · exact .inr ⟨hn, cs, t, fr, by rw [h.2.1 b hb (.inr ⟨hn, cs, t, fr, hc, ht⟩)]; exact hc, ht⟩)).trans (h.2.1 b hb hc), fun v xs hx => k.2.2 v xs (h.2.2 v xs hx)⟩
theorem cell_put {A : World} {l b i : Nat} {o : Obj} {v : Value} (h : Lp l A) (k : A.cell? ⟨b, i, none⟩ = some v) : (A.putObj l o).cell? ⟨b, i, none⟩ = some v :=
  (World.cell?_of_block (World.putObj_heap_other (h.ne k))).trans k
theorem Ints.put {A : World} {l : Nat} {o : Obj} {v : Value} {xs : List Int} (h : Lp l A) (k : Ints A v xs) : Ints (A.putObj l o) v xs := by
  obtain ⟨A0, c, e, hc, hx⟩ := k
  refine ⟨A0, c, e, hc, fun j x hj => ?_⟩
  obtain ⟨b, off, e1, hcell⟩ := hx j x hj
  exact ⟨b, off, e1, cell_put h hcell⟩
theorem Kq.put {l gB : Nat} (hl : l ≠ gB) (A : World) (o : Obj) (h : Lp l A) : Kq l gB A (A.putObj l o) :=
  ⟨by rw [World.putObj_size]; exact Nat.le_refl _, fun b _ hc => World.putObj_heap_other (by rcases hc with rfl | hc; exact fun e => hl e.symm; exact hc.1), fun _ _ k => k.put h⟩
theorem Kq.arr {l gB : Nat} {A B : World} (h : Kq l gB A B) {b : Nat} {t : TypeId} {cs : List Value} (ha : Arr A b t cs) (hb : b = gB ∨ (b ≠ l ∧ KqT t)) : Arr B b t cs :=
  (h.2.1 b ha.lt (hb.elim .inl fun e => .inr ⟨e.1, _, _, _, ha, e.2⟩)).trans ha
/-- a slice of integers -/
def IntR (l : Nat) (w : World) (v : Value) (xs : List Int) : Prop := Ints w v xs ∧ True
theorem IntR.kq {l gB : Nat} {A B : World} {v : Value} {xs : List Int} (h : IntR l A v xs) (k : Kq l gB A B) : IntR l B v xs := ⟨k.2.2 _ _ h.1, trivial⟩
/-- what the iterator holds, pre having been handed over -/
structure NbS (l base gB gY : Nat) (vX vO : Value) (tY : TypeId) (g : Gd) (J : Nat → World → Prop) (pre : List (List Mv × Gd)) (wr : World) : Prop where
  box : Arr wr gB 24 [vX, vO]
  yb : Arr wr gY tY [.func (.yield l) #[] #[]]
  iX : IntR l wr vX g.1
  iO : IntR l wr vO g.2
  j : J pre.length wr
  suf : ∃ suf, nbrs g = pre ++ suf
section
variable {l base gB gY : Nat} {vX vO : Value} {tY : TypeId} {g : Gd} {J : Nat → World → Prop} {pre : List (List Mv × Gd)} {wr w' : World}
theorem NbS.below (hJ : ∀ k A B, J k A → Below A.heap.size A B → J k B) (h : NbS l base gB gY vX vO tY g J pre wr) (hb : Below wr.heap.size wr w') : NbS l base gB gY vX vO tY g J pre w' :=
  ⟨h.box.below hb h.box.lt, h.yb.below hb h.yb.lt, h.iX.kq (gB := gB) (Kq.of_below hb), h.iO.kq (gB := gB) (Kq.of_below hb), hJ _ _ _ h.j hb, h.suf⟩
end
/-- what is told of the k-th pair -/
def NbRd (g : Gd) (k : Nat) (v u : Value) (W : World) : Prop := ∃ ms g', (nbrs g)[k]? = some (ms, g') ∧ Moves W v ms ∧ GdI W u g'
/-- a try, as the iterator calls it -/
theorem try_any (n l base gB gY : Nat) (hn : 2 ≤ n) (A B : Option Addr) (nx c no d : Nat) (vm : Value) (ms : List Mv) (g : Gd) (W : World) (J : Nat → World → Prop) (Jx : World → Prop) (pre : List (List Mv × Gd))
    (hJ : ∀ k A B, J k A → Below A.heap.size A B → J k B)
    (hst : NbS l base gB gY (.slice A nx c) (.slice B no d) 89 g J pre W) (hgY : gY ≠ l) (hv : Vd g.1 g.2) (hm : Moves W vm ms) (hms : ms.length ≤ 2) (hsuf : ∃ suf, nbrs g = pre ++ tryM g ms ++ suf)
    (hR : ∀ k v u W1, k < (nbrs g).length → J k W1 → NbRd g k v u W1 → YieldAt Fence.wide (n - 1) Tryz.prog l #[v, u] W1 fun e W' =>
      (e = .returned (.bool true) ∧ J (k + 1) W' ∧ Kq l gB W1 W') ∨ (e = .returned (.bool false) ∧ Jx W')) :
    Calls Tryz.prog 48 #[vm, .pointer (some ⟨gB, 0, none⟩), .pointer (some ⟨gY, 0, none⟩)] W fun e W' =>
      (e = .returned (.bool true) ∧ NbS l base gB gY (.slice A nx c) (.slice B no d) 89 g J (pre ++ tryM g ms) W' ∧ Kq l gB W W') ∨ (e = .returned (.bool false) ∧ Jx W') := by
  obtain ⟨suf, hs⟩ := hsuf
  refine ((callsIn_wide (n := n)).1 (try_in n l hn gB gY A B nx c no d vm ms g W hst.box _ hst.yb hst.iX.1 hst.iO.1 hv hm hms (fun W1 W' => J (pre.length + 1) W' ∧ Kq l gB W1 W') Jx fun g' u W1 ht hb hg => ?_)).mono ?_
  · rw [ht] at hs
    have hk : (nbrs g)[pre.length]? = some (ms, g') := by rw [hs]; simp
    exact hR pre.length vm u W1 (List.getElem?_eq_some_iff.1 hk).1 (hJ _ _ _ hst.j hb) ⟨ms, g', hk, hm.below hb, hg⟩
  · rintro e W' (⟨ht, rfl, hb⟩ | ⟨g', ht, (⟨rfl, W1, hb, hj, hk⟩ | ⟨rfl, hx⟩)⟩)
    · refine .inl ⟨rfl, ?_, Kq.of_below hb⟩
      rw [ht, List.append_nil]
      exact hst.below hJ hb
    · have kq := (Kq.of_below (l := l) (gB := gB) hb).trans hk
      refine .inl ⟨rfl, ⟨kq.arr hst.box (.inl rfl), kq.arr hst.yb (.inr ⟨hgY, .inr (.inr rfl)⟩), hst.iX.kq kq, hst.iO.kq kq, ?_, ⟨suf, hs⟩⟩, kq⟩
      rw [ht, List.length_append]; exact hj
    · exact .inr ⟨rfl, hx⟩
end Go.Proofs.YteliflcbegcdlaaGreatDoor

namespace Go.Proofs.YteliflcbegcdlaaGreatDoor
open Go.RowKit Go.Shelf
set_option linter.unusedVariables false
theorem nb1_succ (g : Gd) (r : Bool) (k : Nat) : nb1 g r (k + 1) = nb1 g r k ++ tryM g (rmL g r k) := by
  unfold nb1; rw [List.range_succ, List.flatMap_append]; simp
theorem nb2_succ (g : Gd) (r : Bool) (k : Nat) : nb2 g r (k + 1) = nb2 g r k ++ tryM g [coM r (k : Int)] := by
  unfold nb2; rw [List.range_succ, List.flatMap_append]; simp
theorem nb1_suf (g : Gd) (r : Bool) (i : Nat) : ∀ d, ∃ s, nb1 g r (i + d) = nb1 g r i ++ s
  | 0 => ⟨[], by simp⟩
  | d + 1 => by
    obtain ⟨s, e⟩ := nb1_suf g r i d
    exact ⟨s ++ tryM g (rmL g r (i + d)), by rw [← Nat.add_assoc, nb1_succ, e, List.append_assoc]⟩
theorem nb2_suf (g : Gd) (r : Bool) (i : Nat) : ∀ d, ∃ s, nb2 g r (i + d) = nb2 g r i ++ s
  | 0 => ⟨[], by simp⟩
  | d + 1 => by
    obtain ⟨s, e⟩ := nb2_suf g r i d
    exact ⟨s ++ tryM g [coM r ((i + d : Nat) : Int)], by rw [← Nat.add_assoc, nb2_succ, e, List.append_assoc]⟩
def prQ (g : Gd) (q : Nat) : List (List Mv × Gd) := if q = 0 then [] else if q = 1 then nbR g false else nbrs g
theorem prQ_suf {g : Gd} {q : Nat} {r : Bool} (h : q = 0 ∧ r = false ∨ q = 1 ∧ r = true) : ∃ suf, nbrs g = prQ g q ++ nbR g r ++ suf ∧ prQ g (q + 1) = prQ g q ++ nbR g r := by
  rcases h with ⟨rfl, rfl⟩ | ⟨rfl, rfl⟩
  · exact ⟨nbR g true, by simp [prQ, nbrs], by simp [prQ]⟩
  · exact ⟨[], by simp [prQ, nbrs], by simp [prQ, nbrs]⟩
theorem suf1 {g : Gd} {q : Nat} {r : Bool} (h : q = 0 ∧ r = false ∨ q = 1 ∧ r = true) {i : Nat} (hi : i < g.1.length) : ∃ suf, nbrs g = (prQ g q ++ nb1 g r i) ++ tryM g (rmL g r i) ++ suf := by
  obtain ⟨s, e, -⟩ := prQ_suf (g := g) h
  obtain ⟨s2, e2⟩ := nb1_suf g r (i + 1) (g.1.length - (i + 1))
  rw [show i + 1 + (g.1.length - (i + 1)) = g.1.length by omega, nb1_succ] at e2
  refine ⟨s2 ++ nb2 g r (g.1.length - 1) ++ nb3 g r ++ s, ?_⟩
  rw [e]; unfold nbR; rw [e2]; simp only [List.append_assoc]
theorem suf2 {g : Gd} {q : Nat} {r : Bool} (h : q = 0 ∧ r = false ∨ q = 1 ∧ r = true) {i : Nat} (hi : i < g.1.length - 1) : ∃ suf, nbrs g = (prQ g q ++ nb1 g r g.1.length ++ nb2 g r i) ++ tryM g [coM r (i : Int)] ++ suf := by
  obtain ⟨s, e, -⟩ := prQ_suf (g := g) h
  obtain ⟨s2, e2⟩ := nb2_suf g r (i + 1) (g.1.length - 1 - (i + 1))
  rw [show i + 1 + (g.1.length - 1 - (i + 1)) = g.1.length - 1 by omega, nb2_succ] at e2
  refine ⟨s2 ++ nb3 g r ++ s, ?_⟩
  rw [e]; unfold nbR; rw [e2]; simp only [List.append_assoc]
theorem suf3 {g : Gd} {q : Nat} {r : Bool} (h : q = 0 ∧ r = false ∨ q = 1 ∧ r = true) : ∃ suf, nbrs g = (prQ g q ++ nb1 g r g.1.length ++ nb2 g r (g.1.length - 1)) ++ tryM g [tuM r, coM r ((g.1.length : Int) - 2)] ++ suf := by
  obtain ⟨s, e, -⟩ := prQ_suf (g := g) h
  refine ⟨s, ?_⟩
  rw [e]; unfold nbR nb3; simp only [List.append_assoc]
theorem moves1 {w : World} {b : Nat} {t : TypeId} {k a v : Int} {r : Bool} (h : Arr w b t [.int .i64 k, .bool r, .int .i64 a, .int .i64 v]) (c : Nat) : Moves w (.slice (some ⟨b, 0, none⟩) 1 c) [⟨k, r, a, v⟩] := by
  refine ⟨_, _, rfl, fun j hj => ⟨b, 0, rfl, fun i u hu => ?_⟩⟩
  obtain rfl : j = 0 := by simpa using hj
  rw [show 0 + 0 * 4 + i = i by omega, h.cell i]
  exact hu
theorem moves2 {w : World} {b : Nat} {t : TypeId} {k a v k' a' v' : Int} {r r' : Bool} (h : Arr w b t [.int .i64 k, .bool r, .int .i64 a, .int .i64 v, .int .i64 k', .bool r', .int .i64 a', .int .i64 v']) (c : Nat) : Moves w (.slice (some ⟨b, 0, none⟩) 2 c) [⟨k, r, a, v⟩, ⟨k', r', a', v'⟩] := by
  refine ⟨_, _, rfl, fun j hj => ⟨b, 0, rfl, fun i u hu => ?_⟩⟩
  rw [h.cell]
  have hi : i < 4 := by
    have := (List.getElem?_eq_some_iff.1 hu).1
    simpa [Mv.cells] using this
  rcases (by simp at hj; omega : j = 0 ∨ j = 1) with rfl | rfl
  · rcases (by omega : i = 0 ∨ i = 1 ∨ i = 2 ∨ i = 3) with rfl | rfl | rfl | rfl <;> simpa [Mv.cells] using hu
  · rcases (by omega : i = 0 ∨ i = 1 ∨ i = 2 ∨ i = 3) with rfl | rfl | rfl | rfl <;> simpa [Mv.cells] using hu
/-- what Apply leaves, in form -/
theorem GRes.form {B : Nat} {w : World} {r : Int × List Int × List Int} {e : Ending} {w' : World} (h : GRes B w r e w') : Below B w w' ∧ ∃ A0 n0 c0 A1 n1 c1, e = .returned (.tuple #[.agg #[.slice A0 n0 c0, .slice A1 n1 c1], .int .i64 r.1]) := by
  obtain ⟨hb, v, he, hv⟩ := h
  refine ⟨hb, ?_⟩
  split at hv
  · obtain ⟨gx, go, rfl, _⟩ := hv
    exact ⟨_, _, _, _, _, _, he⟩
  · subst hv
    exact ⟨_, _, _, _, _, _, he⟩
set_option maxHeartbeats 16000000 in
set_option maxRecDepth 100000 in
theorem nb_any (n l gB : Nat) (hn : 2 ≤ n) (A B : Option Addr) (nx c no d : Nat) (g : Gd) (W : World) (J : Nat → World → Prop) (Jx : World → Prop)
    (hJ : ∀ k A B, J k A → Below A.heap.size A B → J k B) (hv : Vd g.1 g.2)
    (hl : l < W.heap.size) (hB : Arr W gB 24 [.slice A nx c, .slice B no d]) (iX : IntR l W (.slice A nx c) g.1) (iO : IntR l W (.slice B no d) g.2) (h0 : J 0 W)
    (hR : ∀ k v u W1, k < (nbrs g).length → J k W1 → NbRd g k v u W1 → YieldAt Fence.wide (n - 1) Tryz.prog l #[v, u] W1 fun e W' =>
      (e = .returned (.bool true) ∧ J (k + 1) W' ∧ Kq l gB W1 W') ∨ (e = .returned (.bool false) ∧ Jx W')) :
    Calls Tryz.prog 47 #[.func (.yield l) #[] #[], .pointer (some ⟨gB, 0, none⟩)] W fun e W' => (∃ v, e = .returned v) ∧ (J (nbrs g).length W' ∨ Jx W') := by
  obtain ⟨base, hbase⟩ : ∃ b, b = W.heap.size := ⟨_, rfl⟩
  have HLL := Lib.hid (show l < base by rw [hbase]; exact hl)
  have hlb : base ≠ l := by have := HLL.out; omega
  have hal := (Below.refl W.heap.size W).alloc (Nat.le_refl _) (.cells #[.func (.yield l) #[] #[]] 89)
  have HN0 := Lib.hid (show NbS l base gB base (.slice A nx c) (.slice B no d) 89 g J (prQ g 0) (W.alloc (.cells #[.func (.yield l) #[] #[]] 89)) from
    ⟨hB.below hal hB.lt, by rw [hbase]; exact Arr.new W _ [_], iX.kq (gB := gB) (Kq.of_below hal), iO.kq (gB := gB) (Kq.of_below hal), hJ _ _ _ h0 hal, ⟨nbrs g, rfl⟩⟩)
  have h40 := hv.most
  have h2 := hv.two
  have hle := hv.len
  obtain ⟨N, hN⟩ : ∃ N, N = g.1.length := ⟨_, rfl⟩
  have hnx : nx = N := by obtain ⟨⟨A0, c0, e, _⟩, _⟩ := iX; injection e with _ e _; rw [e, hN]
  subst hnx
  have HNG := Lib.hid hN
  rw [← hN] at h40 h2
  have HTRY := Lib.hid (fun (W' : World) (pre : List (List Mv × Gd)) (vm : Value) (ms : List Mv) (hst : NbS l base gB base (.slice A nx c) (.slice B no d) 89 g J pre W') (hm : Moves W' vm ms) (hms : ms.length ≤ 2) (hsuf : ∃ suf, nbrs g = pre ++ tryM g ms ++ suf) =>
    try_any n l base gB base hn A B nx c no d vm ms g W' J Jx pre hJ hst hlb hv hm hms hsuf hR)
  have HAPP := Lib.hid (fun (W' : World) (pre : List (List Mv × Gd)) (r : Bool) (i : Nat) (hst : NbS l base gB base (.slice A nx c) (.slice B no d) 89 g J pre W') =>
    (apply_any (.slice A nx c) (.slice B no d) g.1 g.2 3 r (i : Int) 0 W' hst.iX.1 hst.iO.1 (by omega) (by omega)).mono fun e w' h => h.form)
  have HJ := Lib.hid hJ
  have HLB := Lib.hid (show base ≤ (W.alloc (.cells #[.func (.yield l) #[] #[]] 89)).heap.size by rw [hbase]; simp)
  clear hal hB iX iO h0 hR hv hle hN hJ hl hlb
  go_enter Tryz.func47, Tryz.ntmps47
  go_upto_region 2 with fail
  obtain ⟨w1, hw1⟩ : ∃ W', W' = W.alloc (.cells #[.func (.yield l) #[] #[]] 89) := ⟨_, rfl⟩
  rw [← hw1] at HN0 HLB ⊢
  rw [← hbase]
  clear hw1 hbase
  have y0 := HN0.out.box.cell 0
  go_upto_region 4 with fail
  clear y0
  go_loopg [6, 7, 8, 9, 10, 11, 12, 13, 14, 20] 2 (fun gk s6 s7 s8 s9 s10 s11 s12 s13 s14 s20 wr => ∃ q : Nat, q ≤ 2 ∧ gk = 2 - q ∧ s20 = .int .i64 (q : Int) ∧ NbS l base gB base (.slice A nx c) (.slice B no d) 89 g J (prQ g q) wr ∧ base ≤ wr.heap.size)
  case atStart => exact ⟨0, by omega, rfl, rfl, HN0.out, HLB.out⟩
  case round =>
    clear HN0 HLB
    obtain ⟨q, hq, rfl, rfl, hst, hlb⟩ := hrel
    obtain ⟨wo, rfl⟩ : ∃ wo : World, wo = wr := ⟨_, rfl⟩
    have HST := Lib.hid hst
    have HLB := Lib.hid hlb
    clear hst hlb
    rcases (by omega : q = 0 ∨ q = 1 ∨ q = 2) with rfl | rfl | rfl
    · have hidx : ∀ W', Sem.run Tryz.prog (Instr.index 93 (Value.agg #[Value.bool false, Value.bool true]) (Value.int IntKind.i64 0)) W' = .ok (.bool false) W' := fun W' => by kernel_rfl
      have hal := ((Below.refl wo.heap.size wo).alloc (Nat.le_refl _) (.cells #[.int .i64 1, .bool false, .int .i64 0, .int .i64 0] 94)).alloc (by simp) (.cells #[.int .i64 1, .bool true, .int .i64 0, .int .i64 0] 94)
      have HS2 := Lib.hid (HST.out.below HJ.out hal)
      have HT2 := Lib.hid (show Arr ((wo.alloc (.cells #[.int .i64 1, .bool false, .int .i64 0, .int .i64 0] 94)).alloc (.cells #[.int .i64 1, .bool true, .int .i64 0, .int .i64 0] 94)) wo.heap.size 94 [.int .i64 1, .bool false, .int .i64 0, .int .i64 0] from (Arr.new wo _ [_, _, _, _]).alloc _)
      have HA2 := Lib.hid (show Arr ((wo.alloc (.cells #[.int .i64 1, .bool false, .int .i64 0, .int .i64 0] 94)).alloc (.cells #[.int .i64 1, .bool true, .int .i64 0, .int .i64 0] 94)) (wo.heap.size + 1) 94 [.int .i64 1, .bool true, .int .i64 0, .int .i64 0] from Arr.newAt (wo.alloc _) _ [_, _, _, _] _ (by simp))
      have HL2 := Lib.hid (show base ≤ ((wo.alloc (.cells #[.int .i64 1, .bool false, .int .i64 0, .int .i64 0] 94)).alloc (.cells #[.int .i64 1, .bool true, .int .i64 0, .int .i64 0] 94)).heap.size by have := HLB.out; simp; omega)
      clear hal
      go_upto_region 8 with fail
      clear hidx
      obtain ⟨w2, hw2⟩ : ∃ W', W' = (wo.alloc (.cells #[.int .i64 1, .bool false, .int .i64 0, .int .i64 0] 94)).alloc (.cells #[.int .i64 1, .bool true, .int .i64 0, .int .i64 0] 94) := ⟨_, rfl⟩
      rw [← hw2] at HS2 HT2 HA2 HL2 ⊢
      obtain ⟨gT, hgT⟩ : ∃ x, x = wo.heap.size := ⟨_, rfl⟩
      rw [← hgT] at HT2 HA2 HLB ⊢
      clear hw2 hgT HST
      go_upto_region 9 with fail
      go_loopg [9, 10, 11, 12, 13, 29] nx (fun gk s9 s10 s11 s12 s13 s29 wr => ∃ i : Nat, i ≤ nx ∧ gk = nx - i ∧ s29 = .int .i64 (i : Int) ∧ NbS l base gB base (.slice A nx c) (.slice B no d) 89 g J (prQ g 0 ++ nb1 g false i) wr ∧ Arr wr gT 94 [.int .i64 1, .bool false, .int .i64 0, .int .i64 0] ∧ Arr wr (gT + 1) 94 [.int .i64 1, .bool true, .int .i64 0, .int .i64 0] ∧ base ≤ wr.heap.size)
      case atStart => exact ⟨0, by omega, rfl, rfl, by rw [show nb1 g false 0 = [] from rfl, List.append_nil]; exact HS2.out, HT2.out, HA2.out, HL2.out⟩
      case round =>
        clear HS2 HT2 HA2 HL2
        obtain ⟨ix, hi, rfl, rfl, hst, hT, hA, hlb⟩ := hrel
        obtain ⟨wi, rfl⟩ : ∃ wi : World, wi = wr := ⟨_, rfl⟩
        have HST := Lib.hid hst
        have HT3 := Lib.hid hT
        have HA3 := Lib.hid hA
        have HL3 := Lib.hid hlb
        clear hst hT hA hlb
        by_cases hit : ix < nx
        · have z1 : (ix : Int) < (nx : Int) := by omega
          have y0 := HST.out.box.cell 0
          have y1 := HST.out.box.cell 1
          have hal := ((Below.refl wi.heap.size wi).alloc (Nat.le_refl _) (.cells #[.int .i64 3, .bool false, .int .i64 (ix : Int), .int .i64 0] 94)).alloc (by simp) (.cells #[.int .i64 3, .bool false, .int .i64 (ix : Int), .int .i64 0] 94)
          have HS4 := Lib.hid (HST.out.below HJ.out hal)
          have HT4 := Lib.hid (HT3.out.below hal HT3.out.lt)
          have HA4 := Lib.hid (HA3.out.below hal HA3.out.lt)
          have HR4 := Lib.hid (show Arr ((wi.alloc (.cells #[.int .i64 3, .bool false, .int .i64 (ix : Int), .int .i64 0] 94)).alloc (.cells #[.int .i64 3, .bool false, .int .i64 (ix : Int), .int .i64 0] 94)) wi.heap.size 94 [.int .i64 3, .bool false, .int .i64 (ix : Int), .int .i64 0] from (Arr.new wi _ [_, _, _, _]).alloc _)
          have HM4 := Lib.hid (show Arr ((wi.alloc (.cells #[.int .i64 3, .bool false, .int .i64 (ix : Int), .int .i64 0] 94)).alloc (.cells #[.int .i64 3, .bool false, .int .i64 (ix : Int), .int .i64 0] 94)) (wi.heap.size + 1) 94 [.int .i64 3, .bool false, .int .i64 (ix : Int), .int .i64 0] from Arr.newAt (wi.alloc _) _ [_, _, _, _] _ (by simp))
          have HL4 := Lib.hid (show base ≤ ((wi.alloc (.cells #[.int .i64 3, .bool false, .int .i64 (ix : Int), .int .i64 0] 94)).alloc (.cells #[.int .i64 3, .bool false, .int .i64 (ix : Int), .int .i64 0] 94)).heap.size by have := HL3.out; simp; omega)
          have HBI := Lib.hid (show base ≤ wi.heap.size from HL3.out)
          clear hal y0 y1
          go_upto_region 13 with fail
          obtain ⟨w4, hw4⟩ : ∃ W', W' = (wi.alloc (.cells #[.int .i64 3, .bool false, .int .i64 (ix : Int), .int .i64 0] 94)).alloc (.cells #[.int .i64 3, .bool false, .int .i64 (ix : Int), .int .i64 0] 94) := ⟨_, rfl⟩
          rw [← hw4] at HS4 HT4 HA4 HR4 HM4 HL4 ⊢
          obtain ⟨gR, hgR⟩ : ∃ x, x = wi.heap.size := ⟨_, rfl⟩
          rw [← hgR] at HR4 HM4 HBI ⊢
          clear hw4 hgR HST HT3 HA3 HL3
          have y0 := HS4.out.box.cell 0
          have y1 := HS4.out.box.cell 1
          have x0 := HR4.out.cell 0
          have x1 := HR4.out.cell 1
          have x2 := HR4.out.cell 2
          have x3 := HR4.out.cell 3
          have HAC := Lib.hid (HAPP.out w4 _ false ix HS4.out)
          go_wp2_with fail
          refine HAC.out.mono ?_
          rintro e w5 ⟨hb5, A0, n0, c0, A1, n1, c1, rfl⟩
          have hal := hb5.trans (((Below.refl w5.heap.size w5).alloc (Nat.le_refl _) (.cells #[.slice A0 n0 c0, .slice A1 n1 c1] 24)).mono hb5.size)
          have HS6 := Lib.hid (HS4.out.below HJ.out hal)
          have HT6 := Lib.hid (HT4.out.below hal HT4.out.lt)
          have HA6 := Lib.hid (HA4.out.below hal HA4.out.lt)
          have HR6 := Lib.hid (HR4.out.below hal HR4.out.lt)
          have HM6 := Lib.hid (HM4.out.below hal HM4.out.lt)
          have HL6 := Lib.hid (Nat.le_trans HL4.out hal.size)
          have HRM := Lib.hid (show rmL g false ix = if (applyM g.1 g.2 3 false (ix : Int) 0).1 = 0 then [rmM false (ix : Int)] else [tuM true, rmM false (ix : Int)] from rfl)
          obtain ⟨er, her⟩ : ∃ x, x = (applyM g.1 g.2 3 false (ix : Int) 0).1 := ⟨_, rfl⟩
          rw [← her] at HRM ⊢
          clear her hb5 hal y0 y1 x0 x1 x2 x3 HAC HS4 HT4 HA4 HR4 HM4 HL4
          have HSF := Lib.hid (suf1 (g := g) (q := 0) (r := false) (by decide) (i := ix) (by rw [← HNG.out]; exact hit))
          by_cases h0 : er = 0
          · have z2 : (er != 0) = false := by simp [h0]
            have HRL := Lib.hid (show rmL g false ix = [⟨3, false, (ix : Int), 0⟩] by rw [HRM.out, if_pos h0]; rfl)
            have HTR := Lib.hid (by have h := HTRY.out _ _ (.slice (some ⟨gR + 1, 0, none⟩) 1 1) [⟨3, false, (ix : Int), 0⟩] HS6.out (moves1 HM6.out 1) (by simp) (by have := HSF.out; rw [HRL.out] at this; exact this); rw [← HRL.out, List.append_assoc, ← nb1_succ] at h; exact h)
            clear h0 HRM
            go_wp2_with fail
            refine HTR.out.mono ?_
            rintro e w7 (⟨rfl, hst7, hkq⟩ | ⟨rfl, hx⟩)
            · have HS7 := Lib.hid hst7
              have HT7 := Lib.hid (hkq.arr HT6.out (.inr ⟨fun e => by have := HLL.out; have := HLB.out; omega, .inr (.inl rfl)⟩))
              have HA7 := Lib.hid (hkq.arr HA6.out (.inr ⟨fun e => by have := HLL.out; have := HLB.out; omega, .inr (.inl rfl)⟩))
              have HL7 := Lib.hid (Nat.le_trans HL6.out hkq.1)
              clear hst7 hkq
              go_wp2_with fail
              go_roundg (nx - (ix + 1))
              case measure => omega
              case rel => exact ⟨ix + 1, by omega, rfl, by go_num, HS7.out, HT7.out, HA7.out, HL7.out⟩
            · have HX := Lib.hid hx
              clear hx
              go_wp2_with fail
              refine bodyPost_ret (results_none rfl _ _ _) rfl ?_
              exact ⟨⟨_, rfl⟩, .inr HX.out⟩
          · have z2 : (er != 0) = true := by simp [h0]
            have HRL := Lib.hid (show rmL g false ix = [⟨1, true, 0, 0⟩, ⟨3, false, (ix : Int), 0⟩] by rw [HRM.out, if_neg h0]; rfl)
            obtain ⟨w6, hw6⟩ : ∃ W', W' = w5.alloc (.cells #[.slice A0 n0 c0, .slice A1 n1 c1] 24) := ⟨_, rfl⟩
            have x0 := HR6.out.cell 0
            have x1 := HR6.out.cell 1
            have x2 := HR6.out.cell 2
            have x3 := HR6.out.cell 3
            have x4 := HA6.out.cell 0
            have x5 := HA6.out.cell 1
            have x6 := HA6.out.cell 2
            have x7 := HA6.out.cell 3
            clear h0 HRM
            go_upto_region 15 with fail
            rw [← hw6] at HS6 HT6 HA6 HR6 HL6 x0 x1 x2 x3 x4 x5 x6 x7 ⊢
            clear hw6 HM6
            have hal := (Below.refl w6.heap.size w6).alloc (Nat.le_refl _) (.cells #[.int .i64 1, .bool true, .int .i64 0, .int .i64 0, .int .i64 3, .bool false, .int .i64 (ix : Int), .int .i64 0] 94)
            have HTR := Lib.hid (by have h := HTRY.out _ _ (.slice (some ⟨w6.heap.size, 0, none⟩) 2 2) [⟨1, true, 0, 0⟩, ⟨3, false, (ix : Int), 0⟩] (HS6.out.below HJ.out hal) (moves2 (Arr.new w6 94 [.int .i64 1, .bool true, .int .i64 0, .int .i64 0, .int .i64 3, .bool false, .int .i64 (ix : Int), .int .i64 0]) 2) (by simp) (by have := HSF.out; rw [HRL.out] at this; exact this); rw [← HRL.out, List.append_assoc, ← nb1_succ] at h; exact h)
            have HT8 := Lib.hid (HT6.out.below hal HT6.out.lt)
            have HA8 := Lib.hid (HA6.out.below hal HA6.out.lt)
            have HL8 := Lib.hid (Nat.le_trans HL6.out hal.size)
            clear hal
            go_wp2_with fail
            refine HTR.out.mono ?_
            rintro e w7 (⟨rfl, hst7, hkq⟩ | ⟨rfl, hx⟩)
            · have HS7 := Lib.hid hst7
              have HT7 := Lib.hid (hkq.arr HT8.out (.inr ⟨fun e => by have := HLL.out; have := HLB.out; omega, .inr (.inl rfl)⟩))
              have HA7 := Lib.hid (hkq.arr HA8.out (.inr ⟨fun e => by have := HLL.out; have := HLB.out; omega, .inr (.inl rfl)⟩))
              have HL7 := Lib.hid (Nat.le_trans HL8.out hkq.1)
              clear hst7 hkq x0 x1 x2 x3 x4 x5 x6 x7
              go_wp2_with fail
              go_roundg (nx - (ix + 1))
              case measure => omega
              case rel => exact ⟨ix + 1, by omega, rfl, by go_num, HS7.out, HT7.out, HA7.out, HL7.out⟩
            · have HX := Lib.hid hx
              clear hx x0 x1 x2 x3 x4 x5 x6 x7
              go_wp2_with fail
              refine bodyPost_ret (results_none rfl _ _ _) rfl ?_
              exact ⟨⟨_, rfl⟩, .inr HX.out⟩
        · have z1 : ¬ (ix : Int) < (nx : Int) := by omega
          obtain rfl : ix = nx := by omega
          clear HA3
          go_upto_region 19 with fail
          go_loopg [14, 55] (ix - 1) (fun gk s14 s55 wr => ∃ k : Nat, k ≤ ix - 1 ∧ gk = ix - 1 - k ∧ s55 = .int .i64 (k : Int) ∧ NbS l base gB base (.slice A ix c) (.slice B no d) 89 g J (prQ g 0 ++ nb1 g false ix ++ nb2 g false k) wr ∧ Arr wr gT 94 [.int .i64 1, .bool false, .int .i64 0, .int .i64 0] ∧ base ≤ wr.heap.size)
          case atStart => exact ⟨0, by omega, rfl, rfl, by rw [show nb2 g false 0 = [] from rfl, List.append_nil]; exact HST.out, HT3.out, HL3.out⟩
          case round =>
            clear HST HT3 HL3
            obtain ⟨k, hk, rfl, rfl, hst, hT, hlb⟩ := hrel
            obtain ⟨wk, rfl⟩ : ∃ wk : World, wk = wr := ⟨_, rfl⟩
            have HST := Lib.hid hst
            have HT3 := Lib.hid hT
            have HL3 := Lib.hid hlb
            clear hst hT hlb
            by_cases hkt : k < ix - 1
            · have z2 : (k : Int) < (ix : Int) - 1 := by omega
              have hal := (Below.refl wk.heap.size wk).alloc (Nat.le_refl _) (.cells #[.int .i64 2, .bool false, .int .i64 (k : Int), .int .i64 0] 94)
              have HSF := Lib.hid (suf2 (g := g) (q := 0) (r := false) (by decide) (i := k) (by rw [← HNG.out]; exact hkt))
              have HTR := Lib.hid (by have h := HTRY.out _ _ (.slice (some ⟨wk.heap.size, 0, none⟩) 1 1) [coM false (k : Int)] (HST.out.below HJ.out hal) (moves1 (Arr.new wk 94 [.int .i64 2, .bool false, .int .i64 (k : Int), .int .i64 0]) 1) (by simp) (by have := HSF.out; rw [← HNG.out] at this; exact this); rw [List.append_assoc, ← nb2_succ] at h; exact h)
              have HT8 := Lib.hid (HT3.out.below hal HT3.out.lt)
              have HL8 := Lib.hid (Nat.le_trans HL3.out hal.size)
              clear hal
              go_wp2_with fail
              refine HTR.out.mono ?_
              rintro e w7 (⟨rfl, hst7, hkq⟩ | ⟨rfl, hx⟩)
              · have HS7 := Lib.hid hst7
                have HT7 := Lib.hid (hkq.arr HT8.out (.inr ⟨fun e => by have := HLL.out; have := HLB.out; omega, .inr (.inl rfl)⟩))
                have HL7 := Lib.hid (Nat.le_trans HL8.out hkq.1)
                clear hst7 hkq
                go_wp2_with fail
                go_roundg (ix - 1 - (k + 1))
                case measure => omega
                case rel => exact ⟨k + 1, by omega, rfl, by go_num, HS7.out, HT7.out, HL7.out⟩
              · have HX := Lib.hid hx
                clear hx
                go_wp2_with fail
                refine bodyPost_ret (results_none rfl _ _ _) rfl ?_
                exact ⟨⟨_, rfl⟩, .inr HX.out⟩
            · have z2 : ¬ (k : Int) < (ix : Int) - 1 := by omega
              obtain ⟨hke⟩ : Nonempty (k = ix - 1) := ⟨by omega⟩
              rw [hke] at HST
              have hal := (Below.refl wk.heap.size wk).alloc (Nat.le_refl _) (.cells #[.int .i64 1, .bool false, .int .i64 0, .int .i64 0, .int .i64 2, .bool false, .int .i64 ((ix : Int) - 2), .int .i64 0] 94)
              have HSF := Lib.hid (by have h := suf3 (g := g) (q := 0) (r := false) (by decide); rw [← HNG.out] at h; exact h)
              have HTR := Lib.hid (HTRY.out _ _ (.slice (some ⟨wk.heap.size, 0, none⟩) 2 2) [tuM false, coM false ((ix : Int) - 2)] (HST.out.below HJ.out hal) (moves2 (Arr.new wk 94 [.int .i64 1, .bool false, .int .i64 0, .int .i64 0, .int .i64 2, .bool false, .int .i64 ((ix : Int) - 2), .int .i64 0]) 2) (by simp) HSF.out)
              have HPE := Lib.hid (show prQ g (0 + 1) = prQ g 0 ++ nb1 g false ix ++ nb2 g false (ix - 1) ++ tryM g [tuM false, coM false ((ix : Int) - 2)] by
                obtain ⟨s, -, e⟩ := prQ_suf (g := g) (q := 0) (r := false) (by decide)
                rw [e]; unfold nbR nb3; rw [← HNG.out]; simp only [List.append_assoc])
              have HL8 := Lib.hid (Nat.le_trans HL3.out hal.size)
              have x0 := HT3.out.cell 0
              have x1 := HT3.out.cell 1
              have x2 := HT3.out.cell 2
              have x3 := HT3.out.cell 3
              clear hal hke
              go_wp2_with fail
              refine HTR.out.mono ?_
              rintro e w7 (⟨rfl, hst7, hkq⟩ | ⟨rfl, hx⟩)
              · have HS7 := Lib.hid hst7
                have HL7 := Lib.hid (Nat.le_trans HL8.out hkq.1)
                clear hst7 hkq x0 x1 x2 x3
                go_wp2_with fail
                go_roundg (2 - (0 + 1))
                case measure => omega
                case rel => exact ⟨0 + 1, by omega, rfl, by go_num, by rw [HPE.out]; exact HS7.out, HL7.out⟩
              · have HX := Lib.hid hx
                clear hx x0 x1 x2 x3
                go_wp2_with fail
                refine bodyPost_ret (results_none rfl _ _ _) rfl ?_
                exact ⟨⟨_, rfl⟩, .inr HX.out⟩
    · have hidx : ∀ W', Sem.run Tryz.prog (Instr.index 93 (Value.agg #[Value.bool false, Value.bool true]) (Value.int IntKind.i64 1)) W' = .ok (.bool true) W' := fun W' => by kernel_rfl
      have hal := ((Below.refl wo.heap.size wo).alloc (Nat.le_refl _) (.cells #[.int .i64 1, .bool true, .int .i64 0, .int .i64 0] 94)).alloc (by simp) (.cells #[.int .i64 1, .bool false, .int .i64 0, .int .i64 0] 94)
      have HS2 := Lib.hid (HST.out.below HJ.out hal)
      have HT2 := Lib.hid (show Arr ((wo.alloc (.cells #[.int .i64 1, .bool true, .int .i64 0, .int .i64 0] 94)).alloc (.cells #[.int .i64 1, .bool false, .int .i64 0, .int .i64 0] 94)) wo.heap.size 94 [.int .i64 1, .bool true, .int .i64 0, .int .i64 0] from (Arr.new wo _ [_, _, _, _]).alloc _)
      have HA2 := Lib.hid (show Arr ((wo.alloc (.cells #[.int .i64 1, .bool true, .int .i64 0, .int .i64 0] 94)).alloc (.cells #[.int .i64 1, .bool false, .int .i64 0, .int .i64 0] 94)) (wo.heap.size + 1) 94 [.int .i64 1, .bool false, .int .i64 0, .int .i64 0] from Arr.newAt (wo.alloc _) _ [_, _, _, _] _ (by simp))
      have HL2 := Lib.hid (show base ≤ ((wo.alloc (.cells #[.int .i64 1, .bool true, .int .i64 0, .int .i64 0] 94)).alloc (.cells #[.int .i64 1, .bool false, .int .i64 0, .int .i64 0] 94)).heap.size by have := HLB.out; simp; omega)
      clear hal
      go_upto_region 8 with fail
      clear hidx
      obtain ⟨w2, hw2⟩ : ∃ W', W' = (wo.alloc (.cells #[.int .i64 1, .bool true, .int .i64 0, .int .i64 0] 94)).alloc (.cells #[.int .i64 1, .bool false, .int .i64 0, .int .i64 0] 94) := ⟨_, rfl⟩
      rw [← hw2] at HS2 HT2 HA2 HL2 ⊢
      obtain ⟨gT, hgT⟩ : ∃ x, x = wo.heap.size := ⟨_, rfl⟩
      rw [← hgT] at HT2 HA2 HLB ⊢
      clear hw2 hgT HST
      go_upto_region 9 with fail
      go_loopg [9, 10, 11, 12, 13, 29] nx (fun gk s9 s10 s11 s12 s13 s29 wr => ∃ i : Nat, i ≤ nx ∧ gk = nx - i ∧ s29 = .int .i64 (i : Int) ∧ NbS l base gB base (.slice A nx c) (.slice B no d) 89 g J (prQ g 1 ++ nb1 g true i) wr ∧ Arr wr gT 94 [.int .i64 1, .bool true, .int .i64 0, .int .i64 0] ∧ Arr wr (gT + 1) 94 [.int .i64 1, .bool false, .int .i64 0, .int .i64 0] ∧ base ≤ wr.heap.size)
      case atStart => exact ⟨0, by omega, rfl, rfl, by rw [show nb1 g true 0 = [] from rfl, List.append_nil]; exact HS2.out, HT2.out, HA2.out, HL2.out⟩
      case round =>
        clear HS2 HT2 HA2 HL2
        obtain ⟨ix, hi, rfl, rfl, hst, hT, hA, hlb⟩ := hrel
        obtain ⟨wi, rfl⟩ : ∃ wi : World, wi = wr := ⟨_, rfl⟩
        have HST := Lib.hid hst
        have HT3 := Lib.hid hT
        have HA3 := Lib.hid hA
        have HL3 := Lib.hid hlb
        clear hst hT hA hlb
        by_cases hit : ix < nx
        · have z1 : (ix : Int) < (nx : Int) := by omega
          have y0 := HST.out.box.cell 0
          have y1 := HST.out.box.cell 1
          have hal := ((Below.refl wi.heap.size wi).alloc (Nat.le_refl _) (.cells #[.int .i64 3, .bool true, .int .i64 (ix : Int), .int .i64 0] 94)).alloc (by simp) (.cells #[.int .i64 3, .bool true, .int .i64 (ix : Int), .int .i64 0] 94)
          have HS4 := Lib.hid (HST.out.below HJ.out hal)
          have HT4 := Lib.hid (HT3.out.below hal HT3.out.lt)
          have HA4 := Lib.hid (HA3.out.below hal HA3.out.lt)
          have HR4 := Lib.hid (show Arr ((wi.alloc (.cells #[.int .i64 3, .bool true, .int .i64 (ix : Int), .int .i64 0] 94)).alloc (.cells #[.int .i64 3, .bool true, .int .i64 (ix : Int), .int .i64 0] 94)) wi.heap.size 94 [.int .i64 3, .bool true, .int .i64 (ix : Int), .int .i64 0] from (Arr.new wi _ [_, _, _, _]).alloc _)
          have HM4 := Lib.hid (show Arr ((wi.alloc (.cells #[.int .i64 3, .bool true, .int .i64 (ix : Int), .int .i64 0] 94)).alloc (.cells #[.int .i64 3, .bool true, .int .i64 (ix : Int), .int .i64 0] 94)) (wi.heap.size + 1) 94 [.int .i64 3, .bool true, .int .i64 (ix : Int), .int .i64 0] from Arr.newAt (wi.alloc _) _ [_, _, _, _] _ (by simp))
          have HL4 := Lib.hid (show base ≤ ((wi.alloc (.cells #[.int .i64 3, .bool true, .int .i64 (ix : Int), .int .i64 0] 94)).alloc (.cells #[.int .i64 3, .bool true, .int .i64 (ix : Int), .int .i64 0] 94)).heap.size by have := HL3.out; simp; omega)
          have HBI := Lib.hid (show base ≤ wi.heap.size from HL3.out)
          clear hal y0 y1
          go_upto_region 13 with fail
          obtain ⟨w4, hw4⟩ : ∃ W', W' = (wi.alloc (.cells #[.int .i64 3, .bool true, .int .i64 (ix : Int), .int .i64 0] 94)).alloc (.cells #[.int .i64 3, .bool true, .int .i64 (ix : Int), .int .i64 0] 94) := ⟨_, rfl⟩
          rw [← hw4] at HS4 HT4 HA4 HR4 HM4 HL4 ⊢
          obtain ⟨gR, hgR⟩ : ∃ x, x = wi.heap.size := ⟨_, rfl⟩
          rw [← hgR] at HR4 HM4 HBI ⊢
          clear hw4 hgR HST HT3 HA3 HL3
          have y0 := HS4.out.box.cell 0
          have y1 := HS4.out.box.cell 1
          have x0 := HR4.out.cell 0
          have x1 := HR4.out.cell 1
          have x2 := HR4.out.cell 2
          have x3 := HR4.out.cell 3
          have HAC := Lib.hid (HAPP.out w4 _ true ix HS4.out)
          go_wp2_with fail
          refine HAC.out.mono ?_
          rintro e w5 ⟨hb5, A0, n0, c0, A1, n1, c1, rfl⟩
          have hal := hb5.trans (((Below.refl w5.heap.size w5).alloc (Nat.le_refl _) (.cells #[.slice A0 n0 c0, .slice A1 n1 c1] 24)).mono hb5.size)
          have HS6 := Lib.hid (HS4.out.below HJ.out hal)
          have HT6 := Lib.hid (HT4.out.below hal HT4.out.lt)
          have HA6 := Lib.hid (HA4.out.below hal HA4.out.lt)
          have HR6 := Lib.hid (HR4.out.below hal HR4.out.lt)
          have HM6 := Lib.hid (HM4.out.below hal HM4.out.lt)
          have HL6 := Lib.hid (Nat.le_trans HL4.out hal.size)
          have HRM := Lib.hid (show rmL g true ix = if (applyM g.1 g.2 3 true (ix : Int) 0).1 = 0 then [rmM true (ix : Int)] else [tuM false, rmM true (ix : Int)] from rfl)
          obtain ⟨er, her⟩ : ∃ x, x = (applyM g.1 g.2 3 true (ix : Int) 0).1 := ⟨_, rfl⟩
          rw [← her] at HRM ⊢
          clear her hb5 hal y0 y1 x0 x1 x2 x3 HAC HS4 HT4 HA4 HR4 HM4 HL4
          have HSF := Lib.hid (suf1 (g := g) (q := 1) (r := true) (by decide) (i := ix) (by rw [← HNG.out]; exact hit))
          by_cases h0 : er = 0
          · have z2 : (er != 0) = false := by simp [h0]
            have HRL := Lib.hid (show rmL g true ix = [⟨3, true, (ix : Int), 0⟩] by rw [HRM.out, if_pos h0]; rfl)
            have HTR := Lib.hid (by have h := HTRY.out _ _ (.slice (some ⟨gR + 1, 0, none⟩) 1 1) [⟨3, true, (ix : Int), 0⟩] HS6.out (moves1 HM6.out 1) (by simp) (by have := HSF.out; rw [HRL.out] at this; exact this); rw [← HRL.out, List.append_assoc, ← nb1_succ] at h; exact h)
            clear h0 HRM
            go_wp2_with fail
            refine HTR.out.mono ?_
            rintro e w7 (⟨rfl, hst7, hkq⟩ | ⟨rfl, hx⟩)
            · have HS7 := Lib.hid hst7
              have HT7 := Lib.hid (hkq.arr HT6.out (.inr ⟨fun e => by have := HLL.out; have := HLB.out; omega, .inr (.inl rfl)⟩))
              have HA7 := Lib.hid (hkq.arr HA6.out (.inr ⟨fun e => by have := HLL.out; have := HLB.out; omega, .inr (.inl rfl)⟩))
              have HL7 := Lib.hid (Nat.le_trans HL6.out hkq.1)
              clear hst7 hkq
              go_wp2_with fail
              go_roundg (nx - (ix + 1))
              case measure => omega
              case rel => exact ⟨ix + 1, by omega, rfl, by go_num, HS7.out, HT7.out, HA7.out, HL7.out⟩
            · have HX := Lib.hid hx
              clear hx
              go_wp2_with fail
              refine bodyPost_ret (results_none rfl _ _ _) rfl ?_
              exact ⟨⟨_, rfl⟩, .inr HX.out⟩
          · have z2 : (er != 0) = true := by simp [h0]
            have HRL := Lib.hid (show rmL g true ix = [⟨1, false, 0, 0⟩, ⟨3, true, (ix : Int), 0⟩] by rw [HRM.out, if_neg h0]; rfl)
            obtain ⟨w6, hw6⟩ : ∃ W', W' = w5.alloc (.cells #[.slice A0 n0 c0, .slice A1 n1 c1] 24) := ⟨_, rfl⟩
            have x0 := HR6.out.cell 0
            have x1 := HR6.out.cell 1
            have x2 := HR6.out.cell 2
            have x3 := HR6.out.cell 3
            have x4 := HA6.out.cell 0
            have x5 := HA6.out.cell 1
            have x6 := HA6.out.cell 2
            have x7 := HA6.out.cell 3
            clear h0 HRM
            go_upto_region 15 with fail
            rw [← hw6] at HS6 HT6 HA6 HR6 HL6 x0 x1 x2 x3 x4 x5 x6 x7 ⊢
            clear hw6 HM6
            have hal := (Below.refl w6.heap.size w6).alloc (Nat.le_refl _) (.cells #[.int .i64 1, .bool false, .int .i64 0, .int .i64 0, .int .i64 3, .bool true, .int .i64 (ix : Int), .int .i64 0] 94)
            have HTR := Lib.hid (by have h := HTRY.out _ _ (.slice (some ⟨w6.heap.size, 0, none⟩) 2 2) [⟨1, false, 0, 0⟩, ⟨3, true, (ix : Int), 0⟩] (HS6.out.below HJ.out hal) (moves2 (Arr.new w6 94 [.int .i64 1, .bool false, .int .i64 0, .int .i64 0, .int .i64 3, .bool true, .int .i64 (ix : Int), .int .i64 0]) 2) (by simp) (by have := HSF.out; rw [HRL.out] at this; exact this); rw [← HRL.out, List.append_assoc, ← nb1_succ] at h; exact h)
            have HT8 := Lib.hid (HT6.out.below hal HT6.out.lt)
            have HA8 := Lib.hid (HA6.out.below hal HA6.out.lt)
            have HL8 := Lib.hid (Nat.le_trans HL6.out hal.size)
            clear hal
            go_wp2_with fail
            refine HTR.out.mono ?_
            rintro e w7 (⟨rfl, hst7, hkq⟩ | ⟨rfl, hx⟩)
            · have HS7 := Lib.hid hst7
              have HT7 := Lib.hid (hkq.arr HT8.out (.inr ⟨fun e => by have := HLL.out; have := HLB.out; omega, .inr (.inl rfl)⟩))
              have HA7 := Lib.hid (hkq.arr HA8.out (.inr ⟨fun e => by have := HLL.out; have := HLB.out; omega, .inr (.inl rfl)⟩))
              have HL7 := Lib.hid (Nat.le_trans HL8.out hkq.1)
              clear hst7 hkq x0 x1 x2 x3 x4 x5 x6 x7
              go_wp2_with fail
              go_roundg (nx - (ix + 1))
              case measure => omega
              case rel => exact ⟨ix + 1, by omega, rfl, by go_num, HS7.out, HT7.out, HA7.out, HL7.out⟩
            · have HX := Lib.hid hx
              clear hx x0 x1 x2 x3 x4 x5 x6 x7
              go_wp2_with fail
              refine bodyPost_ret (results_none rfl _ _ _) rfl ?_
              exact ⟨⟨_, rfl⟩, .inr HX.out⟩
        · have z1 : ¬ (ix : Int) < (nx : Int) := by omega
          obtain rfl : ix = nx := by omega
          clear HA3
          go_upto_region 19 with fail
          go_loopg [14, 55] (ix - 1) (fun gk s14 s55 wr => ∃ k : Nat, k ≤ ix - 1 ∧ gk = ix - 1 - k ∧ s55 = .int .i64 (k : Int) ∧ NbS l base gB base (.slice A ix c) (.slice B no d) 89 g J (prQ g 1 ++ nb1 g true ix ++ nb2 g true k) wr ∧ Arr wr gT 94 [.int .i64 1, .bool true, .int .i64 0, .int .i64 0] ∧ base ≤ wr.heap.size)
          case atStart => exact ⟨0, by omega, rfl, rfl, by rw [show nb2 g true 0 = [] from rfl, List.append_nil]; exact HST.out, HT3.out, HL3.out⟩
          case round =>
            clear HST HT3 HL3
            obtain ⟨k, hk, rfl, rfl, hst, hT, hlb⟩ := hrel
            obtain ⟨wk, rfl⟩ : ∃ wk : World, wk = wr := ⟨_, rfl⟩
            have HST := Lib.hid hst
            have HT3 := Lib.hid hT
            have HL3 := Lib.hid hlb
            clear hst hT hlb
            by_cases hkt : k < ix - 1
            · have z2 : (k : Int) < (ix : Int) - 1 := by omega
              have hal := (Below.refl wk.heap.size wk).alloc (Nat.le_refl _) (.cells #[.int .i64 2, .bool true, .int .i64 (k : Int), .int .i64 0] 94)
              have HSF := Lib.hid (suf2 (g := g) (q := 1) (r := true) (by decide) (i := k) (by rw [← HNG.out]; exact hkt))
              have HTR := Lib.hid (by have h := HTRY.out _ _ (.slice (some ⟨wk.heap.size, 0, none⟩) 1 1) [coM true (k : Int)] (HST.out.below HJ.out hal) (moves1 (Arr.new wk 94 [.int .i64 2, .bool true, .int .i64 (k : Int), .int .i64 0]) 1) (by simp) (by have := HSF.out; rw [← HNG.out] at this; exact this); rw [List.append_assoc, ← nb2_succ] at h; exact h)
              have HT8 := Lib.hid (HT3.out.below hal HT3.out.lt)
              have HL8 := Lib.hid (Nat.le_trans HL3.out hal.size)
              clear hal
              go_wp2_with fail
              refine HTR.out.mono ?_
              rintro e w7 (⟨rfl, hst7, hkq⟩ | ⟨rfl, hx⟩)
              · have HS7 := Lib.hid hst7
                have HT7 := Lib.hid (hkq.arr HT8.out (.inr ⟨fun e => by have := HLL.out; have := HLB.out; omega, .inr (.inl rfl)⟩))
                have HL7 := Lib.hid (Nat.le_trans HL8.out hkq.1)
                clear hst7 hkq
                go_wp2_with fail
                go_roundg (ix - 1 - (k + 1))
                case measure => omega
                case rel => exact ⟨k + 1, by omega, rfl, by go_num, HS7.out, HT7.out, HL7.out⟩
              · have HX := Lib.hid hx
                clear hx
                go_wp2_with fail
                refine bodyPost_ret (results_none rfl _ _ _) rfl ?_
                exact ⟨⟨_, rfl⟩, .inr HX.out⟩
            · have z2 : ¬ (k : Int) < (ix : Int) - 1 := by omega
              obtain ⟨hke⟩ : Nonempty (k = ix - 1) := ⟨by omega⟩
              rw [hke] at HST
              have hal := (Below.refl wk.heap.size wk).alloc (Nat.le_refl _) (.cells #[.int .i64 1, .bool true, .int .i64 0, .int .i64 0, .int .i64 2, .bool true, .int .i64 ((ix : Int) - 2), .int .i64 0] 94)
              have HSF := Lib.hid (by have h := suf3 (g := g) (q := 1) (r := true) (by decide); rw [← HNG.out] at h; exact h)
              have HTR := Lib.hid (HTRY.out _ _ (.slice (some ⟨wk.heap.size, 0, none⟩) 2 2) [tuM true, coM true ((ix : Int) - 2)] (HST.out.below HJ.out hal) (moves2 (Arr.new wk 94 [.int .i64 1, .bool true, .int .i64 0, .int .i64 0, .int .i64 2, .bool true, .int .i64 ((ix : Int) - 2), .int .i64 0]) 2) (by simp) HSF.out)
              have HPE := Lib.hid (show prQ g (1 + 1) = prQ g 1 ++ nb1 g true ix ++ nb2 g true (ix - 1) ++ tryM g [tuM true, coM true ((ix : Int) - 2)] by
                obtain ⟨s, -, e⟩ := prQ_suf (g := g) (q := 1) (r := true) (by decide)
                rw [e]; unfold nbR nb3; rw [← HNG.out]; simp only [List.append_assoc])
              have HL8 := Lib.hid (Nat.le_trans HL3.out hal.size)
              have x0 := HT3.out.cell 0
              have x1 := HT3.out.cell 1
              have x2 := HT3.out.cell 2
              have x3 := HT3.out.cell 3
              clear hal hke
              go_wp2_with fail
              refine HTR.out.mono ?_
              rintro e w7 (⟨rfl, hst7, hkq⟩ | ⟨rfl, hx⟩)
              · have HS7 := Lib.hid hst7
                have HL7 := Lib.hid (Nat.le_trans HL8.out hkq.1)
                clear hst7 hkq x0 x1 x2 x3
                go_wp2_with fail
                go_roundg (2 - (1 + 1))
                case measure => omega
                case rel => exact ⟨1 + 1, by omega, rfl, by go_num, by rw [HPE.out]; exact HS7.out, HL7.out⟩
              · have HX := Lib.hid hx
                clear hx x0 x1 x2 x3
                go_wp2_with fail
                refine bodyPost_ret (results_none rfl _ _ _) rfl ?_
                exact ⟨⟨_, rfl⟩, .inr HX.out⟩
    · have HJE := Lib.hid (show J (nbrs g).length wo from HST.out.j)
      go_wp2_with fail
      go_end0
      exact ⟨⟨_, rfl⟩, .inl HJE.out⟩
end Go.Proofs.YteliflcbegcdlaaGreatDoor

namespace Go.Proofs.YteliflcbegcdlaaGreatDoor
open Go.RowKit Go.Shelf
set_option linter.unusedVariables false
theorem Moves.put {A : World} {l : Nat} {o : Obj} {v : Value} {ms : List Mv} (h : Lp l A) (k : Moves A v ms) : Moves (A.putObj l o) v ms := by
  obtain ⟨A0, c, e, hx⟩ := k
  refine ⟨A0, c, e, fun j hj => ?_⟩
  obtain ⟨b, off, e1, hcell⟩ := hx j hj
  exact ⟨b, off, e1, fun i u hu => cell_put h (hcell i u hu)⟩
theorem GdI.put {A : World} {l : Nat} {o : Obj} {v : Value} {g : Gd} (h : Lp l A) (k : GdI A v g) : GdI (A.putObj l o) v g := by
  obtain ⟨A0, n, c, B0, m, d, e, a, b⟩ := k
  exact ⟨A0, n, c, B0, m, d, e, a.put h, b.put h⟩
theorem NbRd.below {g : Gd} {k : Nat} {v u : Value} {A B : World} (h : NbRd g k v u A) (hb : Below A.heap.size A B) : NbRd g k v u B := by
  obtain ⟨ms, g', e, a, b⟩ := h
  exact ⟨ms, g', e, a.below hb, b.below hb⟩
theorem NbRd.put {g : Gd} {k : Nat} {v u : Value} {A : World} {l : Nat} {o : Obj} (hl : Lp l A) (h : NbRd g k v u A) : NbRd g k v u (A.putObj l o) := by
  obtain ⟨ms, g', e, a, b⟩ := h
  exact ⟨ms, g', e, a.put hl, b.put hl⟩
theorem nb_tells (n gB l : Nat) (hn : 2 ≤ n) (A B : Option Addr) (nx c no d : Nat) (g : Gd) (W : World) (hv : Vd g.1 g.2)
    (hl : l < W.heap.size) (hB : Arr W gB 24 [.slice A nx c, .slice B no d]) (iX : IntR l W (.slice A nx c) g.1) (iO : IntR l W (.slice B no d) g.2) :
    Tells Tryz.prog n 47 #[.pointer (some ⟨gB, 0, none⟩)] (nbrs g).length (NbRd g) (Kq l gB) l W := by
  intro J Jx hJ hJx hR h0
  exact (callsIn_wide (n := n)).2 (nb_any n l gB hn A B nx c no d g W J Jx hJ hv hl hB iX iO h0 hR)
/-- neighbors: a box for the grid, the iterator -/
theorem neighbors_any (g v : Value) (w : World) : ∀ (hg : ∃ a b, g = .agg #[a, b]), Calls Tryz.prog 31 #[g] w fun e w' =>
    ∃ a b, g = .agg #[a, b] ∧ e = .returned (.func (.func 47) #[] #[.pointer (some ⟨w.heap.size, 0, none⟩)]) ∧ Arr w' w.heap.size 24 [a, b] ∧ Below w.heap.size w w' ∧ w.heap.size < w'.heap.size := by
  rintro ⟨a, b, rfl⟩
  go_enter Tryz.func31, Tryz.ntmps31
  go_wp2_with fail
  go_ret
  exact ⟨a, b, rfl, rfl, by first | exact Arr.new w _ [_, _] | skip, (Below.refl _ _).alloc (Nat.le_refl _) _, by simp⟩
end Go.Proofs.YteliflcbegcdlaaGreatDoor
