/- unknot.neighbors: one try. -/
/- unknot.neighbors: the iterator. -/
import Derived.Test.YteigjfdgijaifaaDoorZTel
import Derived.Test.YteigjfdgijaifaaDoorZFmw
import Derived.Test.YteigjfdgijaifaaDoorZPlay
import Derived.Shelf.Abstract
import Derived.Shelf.RegionOpen
import Derived.WalkKit
import Derived.OwnWalkIn
import Derived.TacticsInMore
import Derived.LoopNIn
import Derived.LoopIn
namespace Go.Proofs.YteigjfdgijaifaaDoor
open Go.RowKit Go.Shelf
set_option linter.unusedVariables false
attribute [local go_sem] Oper.semAt_some

/-- what a try ends with: tt: what holds after a round that goes on, xx: after one that ends -/
def TryR (g : Gd) (ms : List Mv) (W : World) (tt : World → World → Prop) (xx : World → Prop) (e : Ending) (W' : World) : Prop :=
  (tryM g ms = [] ∧ e = .returned (.bool true) ∧ Below W.heap.size W W') ∨
  (∃ g', tryM g ms = [(ms, g')] ∧ ((e = .returned (.bool true) ∧ ∃ W1, Below W.heap.size W W1 ∧ tt W1 W') ∨ (e = .returned (.bool false) ∧ xx W')))
set_option maxHeartbeats 4000000 in
set_option maxRecDepth 100000 in
theorem try_in (n l : Nat) (hn : 2 ≤ n) (gB gY : Nat) (A B : Option Addr) (nx c no d : Nat) (vm : Value) (ms : List Mv) (g : Gd) (W : World) (hB : Arr W gB 26 [.slice A nx c, .slice B no d]) (tY : TypeId) (hY : Arr W gY tY [.func (.yield l) #[] #[]])
    (hX : Ints W (.slice A nx c) g.1) (hO : Ints W (.slice B no d) g.2) (hv : Vd g.1 g.2) (hm : Moves W vm ms) (hms : ms.length ≤ 2) (tt : World → World → Prop) (xx : World → Prop)
    (hR : ∀ g' u W1, tryM g ms = [(ms, g')] → Below W.heap.size W W1 → GdI W1 u g' → YieldAt Fence.wide (n - 1) Tryd.prog l #[vm, u] W1 fun e W' => (e = .returned (.bool true) ∧ tt W1 W') ∨ (e = .returned (.bool false) ∧ xx W')) :
    CallsIn Fence.wide n Tryd.prog 53 #[vm, .pointer (some ⟨gB, 0, none⟩), .pointer (some ⟨gY, 0, none⟩)] W (TryR g ms W tt xx) := by
  obtain ⟨X, O⟩ := g
  dsimp only at hX hO hv
  have h40 := hv.most
  have hle := hv.len
  have HPL := Lib.hid (play_any (.slice A nx c) (.slice B no d) vm X O ms W hX hO hm (by omega) (by omega) (by omega))
  obtain ⟨r, hr⟩ : ∃ r, r = playM X O ms := ⟨_, rfl⟩
  rw [← hr] at HPL
  have HQB := Lib.hid (fun W' (hb : Below W.heap.size W W') => hB.below hb hB.lt)
  have HQY := Lib.hid (fun W' (hb : Below W.heap.size W W') => hY.below hb hY.lt)
  have HRR := Lib.hid hR
  have HTM := Lib.hid (show tryM (X, O) ms = if r.2.2.2 < 0 ∧ r.1 = 0 then [(ms, r.2.1, r.2.2.1)] else [] by unfold tryM; rw [hr])
  have y0 := hB.cell 0
  have y1 := hB.cell 1
  clear hX hO hv hm hR hr hB hY
  refine callsIn_of_wp Tryd.func53 rfl trivial ?_ rfl
  simp only [Tryd.ntmps53, List.size_toArray, List.length_cons, List.length_nil, Nat.reduceAdd, Nat.reduceSub, Array.replicate_succ, Array.replicate_zero, List.push_toArray, List.append_toArray, List.nil_append, List.cons_append]
  gi_wp2_with fail
  refine ⟨trivial, (fun h => by cases h), ((callsIn_wide (n := n - 1)).2 HPL.out).mono ?_⟩
  rintro e W4 ⟨hb4, A0, n0, c0, A1, n1, c1, rfl, i0, i1⟩
  have hal := (Below.refl W4.heap.size W4).alloc (Nat.le_refl _) (.cells #[.slice A0 n0 c0, .slice A1 n1 c1] 26)
  have HQ5 := Lib.hid (show Arr (W4.alloc (.cells #[.slice A0 n0 c0, .slice A1 n1 c1] 26)) W4.heap.size 26 [.slice A0 n0 c0, .slice A1 n1 c1] from Arr.new W4 _ [_, _])
  have HB5 := Lib.hid (hb4.trans (hal.mono hb4.size))
  have HI5 := Lib.hid (show GdI (W4.alloc (.cells #[.slice A0 n0 c0, .slice A1 n1 c1] 26)) (.agg #[.slice A0 n0 c0, .slice A1 n1 c1]) (r.2.1, r.2.2.1) from ⟨A0, n0, c0, A1, n1, c1, rfl, i0.below hal, i1.below hal⟩)
  clear hb4 hal i0 i1 y0 y1 HPL
  obtain ⟨at_, hat⟩ : ∃ x, x = r.2.2.2 := ⟨_, rfl⟩
  obtain ⟨er, her⟩ : ∃ x, x = r.1 := ⟨_, rfl⟩
  rw [← hat, ← her] at HTM ⊢
  obtain ⟨g', hg'⟩ : ∃ x : Gd, x = (r.2.1, r.2.2.1) := ⟨_, rfl⟩
  rw [← hg'] at HI5
  rw [show [(ms, r.2.1, r.2.2.1)] = [(ms, g')] by rw [hg']] at HTM
  clear hat her hg'
  by_cases h1 : at_ ≥ 0
  · have HT := Lib.hid (show tryM (X, O) ms = [] by rw [HTM.out, if_neg (by omega)])
    gi_wp2
    refine ⟨(fun f h => by cases h), ?_⟩
    gi_wp2
    go_ret
    exact .inl ⟨HT.out, rfl, HB5.out⟩
  by_cases h2 : er = 0
  · have z2 : (er != 0) = false := by simp [h2]
    have HT := Lib.hid (show tryM (X, O) ms = [(ms, g')] by rw [HTM.out, if_pos ⟨by omega, h2⟩])
    have y2 := (HQY.out _ HB5.out).cell 0
    have y3 := HQ5.out.cell 0
    have y4 := HQ5.out.cell 1
    obtain ⟨fn, tmps, assign, body, hy, hRd⟩ := HRR.out g' _ _ HT.out HB5.out HI5.out
    clear h2
    gi_wp2
    refine ⟨(fun h => by cases h), hRd.mono ?_⟩
    rintro e W6 (⟨rfl, h6⟩ | ⟨rfl, h6⟩)
    · have H6 := Lib.hid h6
      clear h6
      gi_wp2
      go_ret
      exact .inr ⟨g', HT.out, .inl ⟨rfl, _, HB5.out, H6.out⟩⟩
    · have H6 := Lib.hid h6
      clear h6
      gi_wp2
      go_ret
      exact .inr ⟨g', HT.out, .inr ⟨by have hz : decide (0 ≤ at_) = false := decide_eq_false (by omega); simp only [hz]; rfl, H6.out⟩⟩
  · have z2 : (er != 0) = true := by simp [h2]
    have HT := Lib.hid (show tryM (X, O) ms = [] by rw [HTM.out, if_neg (fun h => h2 h.2)])
    clear h2
    gi_wp2
    refine ⟨(fun f h => by cases h), ?_⟩
    gi_wp2
    go_ret
    exact .inl ⟨HT.out, rfl, HB5.out⟩
end Go.Proofs.YteigjfdgijaifaaDoor

namespace Go.Proofs.YteigjfdgijaifaaDoor
open Go.RowKit Go.Shelf
set_option linter.unusedVariables false

/-- what a round keeps: the box gB; integers, moves, functions -/
def KqT (t : TypeId) : Prop := t = 3 ∨ t = 37 ∨ t = 97
def Kq (l gB : Nat) (A B : World) : Prop :=
  A.heap.size ≤ B.heap.size ∧ (∀ b, b < A.heap.size → (b = gB ∨ (b ≠ l ∧ ∃ cs t fr, A.heap[b]? = some (.cells cs t fr) ∧ KqT t)) → B.heap[b]? = A.heap[b]?) ∧ ∀ v xs, Ints A v xs → Ints B v xs
theorem Kq.of_below {l gB : Nat} {A B : World} (h : Below A.heap.size A B) : Kq l gB A B := ⟨h.size, fun b hb _ => h.block b hb, fun _ _ k => k.below h⟩
theorem Kq.trans {l gB : Nat} {A B C : World} (h : Kq l gB A B) (k : Kq l gB B C) : Kq l gB A C :=
  ⟨Nat.le_trans h.1 k.1, fun b hb hc => (k.2.1 b (Nat.lt_of_lt_of_le hb h.1) (by
    rcases hc with hc | ⟨hn, cs, t, fr, hc, ht⟩
    · exact .inl hc
    · exact .inr ⟨hn, cs, t, fr, by rw [h.2.1 b hb (.inr ⟨hn, cs, t, fr, hc, ht⟩)]; exact hc, ht⟩)).trans (h.2.1 b hb hc), fun v xs hx => k.2.2 v xs (h.2.2 v xs hx)⟩
theorem cell_put {A : World} {l b i : Nat} {o : Obj} {v : Value} (h : Lp l A) (k : A.cell? ⟨b, i, none⟩ = some v) : (A.putObj l o).cell? ⟨b, i, none⟩ = some v :=
  (World.cell?_of_block (World.putObj_heap_other (h.ne k))).trans k
theorem Ints.put {A : World} {l : Nat} {o : Obj} {v : Value} {xs : List Int} (h : Lp l A) (k : Ints A v xs) : Ints (A.putObj l o) v xs := by
  obtain ⟨A0, c, e, hc, hx⟩ := k
  refine ⟨A0, c, e, hc, fun j x hj => ?_⟩
  obtain ⟨b, off, e1, hcell⟩ := hx j x hj
  exact ⟨b, off, e1, cell_put h hcell⟩
theorem Kq.put {l gB : Nat} (hl : l ≠ gB) (A : World) (o : Obj) (h : Lp l A) : Kq l gB A (A.putObj l o) :=
  ⟨by rw [World.putObj_size]; exact Nat.le_refl _, fun b _ hc => World.putObj_heap_other (by rcases hc with rfl | hc; exact fun e => hl e.symm; exact hc.1), fun _ _ k => k.put h⟩
theorem Kq.arr {l gB : Nat} {A B : World} (h : Kq l gB A B) {b : Nat} {t : TypeId} {cs : List Value} (ha : Arr A b t cs) (hb : b = gB ∨ (b ≠ l ∧ KqT t)) : Arr B b t cs :=
  (h.2.1 b ha.lt (hb.elim .inl fun e => .inr ⟨e.1, _, _, _, ha, e.2⟩)).trans ha
/-- a slice of integers -/
def IntR (l : Nat) (w : World) (v : Value) (xs : List Int) : Prop := Ints w v xs ∧ True
theorem IntR.kq {l gB : Nat} {A B : World} {v : Value} {xs : List Int} (h : IntR l A v xs) (k : Kq l gB A B) : IntR l B v xs := ⟨k.2.2 _ _ h.1, trivial⟩
/-- what the iterator holds, pre having been handed over -/
structure NbS (l base gB gY : Nat) (vX vO : Value) (tY : TypeId) (g : Gd) (J : Nat → World → Prop) (pre : List (List Mv × Gd)) (wr : World) : Prop where
  box : Arr wr gB 26 [vX, vO]
  yb : Arr wr gY tY [.func (.yield l) #[] #[]]
  iX : IntR l wr vX g.1
  iO : IntR l wr vO g.2
  j : J pre.length wr
  suf : ∃ suf, nbrs g = pre ++ suf
section
variable {l base gB gY : Nat} {vX vO : Value} {tY : TypeId} {g : Gd} {J : Nat → World → Prop} {pre : List (List Mv × Gd)} {wr w' : World}
theorem NbS.below (hJ : ∀ k A B, J k A → Below A.heap.size A B → J k B) (h : NbS l base gB gY vX vO tY g J pre wr) (hb : Below wr.heap.size wr w') : NbS l base gB gY vX vO tY g J pre w' :=
  ⟨h.box.below hb h.box.lt, h.yb.below hb h.yb.lt, h.iX.kq (gB := gB) (Kq.of_below hb), h.iO.kq (gB := gB) (Kq.of_below hb), hJ _ _ _ h.j hb, h.suf⟩
end
/-- what is told of the k-th pair -/
def NbRd (g : Gd) (k : Nat) (v u : Value) (W : World) : Prop := ∃ ms g', (nbrs g)[k]? = some (ms, g') ∧ Moves W v ms ∧ GdI W u g'
theorem tryM_ms {g : Gd} {ms : List Mv} {p : List Mv × Gd} (h : p ∈ tryM g ms) : p.1 = ms := by
  unfold tryM at h
  split at h
  · rw [List.mem_singleton.1 h]
  · simp at h
/-- a try, as the iterator calls it -/
theorem try_any (n l base gB gY : Nat) (hn : 2 ≤ n) (A B : Option Addr) (nx c no d : Nat) (vm : Value) (ms : List Mv) (g : Gd) (W : World) (J : Nat → World → Prop) (Jx : World → Prop) (pre : List (List Mv × Gd))
    (hJ : ∀ k A B, J k A → Below A.heap.size A B → J k B)
    (hst : NbS l base gB gY (.slice A nx c) (.slice B no d) 97 g J pre W) (hgY : gY ≠ l) (hv : Vd g.1 g.2) (hm : Moves W vm ms) (hms : ms.length ≤ 2) (hsuf : ∃ suf, nbrs g = pre ++ tryM g ms ++ suf)
    (hR : ∀ k v u W1, k < (nbrs g).length → J k W1 → NbRd g k v u W1 → YieldAt Fence.wide (n - 1) Tryd.prog l #[v, u] W1 fun e W' =>
      (e = .returned (.bool true) ∧ J (k + 1) W' ∧ Kq l gB W1 W') ∨ (e = .returned (.bool false) ∧ Jx W')) :
    Calls Tryd.prog 53 #[vm, .pointer (some ⟨gB, 0, none⟩), .pointer (some ⟨gY, 0, none⟩)] W fun e W' =>
      (e = .returned (.bool true) ∧ NbS l base gB gY (.slice A nx c) (.slice B no d) 97 g J (pre ++ tryM g ms) W' ∧ Kq l gB W W') ∨ (e = .returned (.bool false) ∧ Jx W') := by
  obtain ⟨suf, hs⟩ := hsuf
  refine ((callsIn_wide (n := n)).1 (try_in n l hn gB gY A B nx c no d vm ms g W hst.box _ hst.yb hst.iX.1 hst.iO.1 hv hm hms (fun W1 W' => J (pre.length + 1) W' ∧ Kq l gB W1 W') Jx fun g' u W1 ht hb hg => ?_)).mono ?_
  · rw [ht] at hs
    have hk : (nbrs g)[pre.length]? = some (ms, g') := by rw [hs]; simp
    exact hR pre.length vm u W1 (List.getElem?_eq_some_iff.1 hk).1 (hJ _ _ _ hst.j hb) ⟨ms, g', hk, hm.below hb, hg⟩
  · rintro e W' (⟨ht, rfl, hb⟩ | ⟨g', ht, (⟨rfl, W1, hb, hj, hk⟩ | ⟨rfl, hx⟩)⟩)
    · refine .inl ⟨rfl, ?_, Kq.of_below hb⟩
      rw [ht, List.append_nil]
      exact hst.below hJ hb
    · have kq := (Kq.of_below (l := l) (gB := gB) hb).trans hk
      refine .inl ⟨rfl, ⟨kq.arr hst.box (.inl rfl), kq.arr hst.yb (.inr ⟨hgY, .inr (.inr rfl)⟩), hst.iX.kq kq, hst.iO.kq kq, ?_, ⟨suf, hs⟩⟩, kq⟩
      rw [ht, List.length_append]; exact hj
    · exact .inr ⟨rfl, hx⟩
end Go.Proofs.YteigjfdgijaifaaDoor
