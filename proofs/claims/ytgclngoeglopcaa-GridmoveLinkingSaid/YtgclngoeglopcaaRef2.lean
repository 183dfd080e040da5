/- The reference's functions that append: without, insert. -/
import Derived.Test.YtgclngoeglopcaaRef1
import Derived.Deep.RegionHeld3
import Derived.Deep.RegionLaw
import Derived.WalkSpells
namespace Go.Proofs.Ytgclngoeglopcaa
open Go.RowKit
set_option linter.unusedVariables false

theorem OwnI.empty (w : World) (e : TypeId) : OwnI e w.heap.size (w.alloc (.cells #[] e)) (.slice (some ⟨w.heap.size, 0, none⟩) 0 0) [] :=
  ⟨rfl, .inr ⟨w.heap.size, 0, #[], rfl, Nat.le_refl _, heap_alloc_new w _, Nat.le_refl _, by unfold maxLen; omega, rfl, rfl⟩⟩

/-- s[lo:] as the walk spells it -/
theorem Ints.tail {w : World} {A : Option Addr} {c lo : Nat} {xs : List Int} (h : Ints w (.slice A xs.length c) xs) (h1 : lo + 1 ≤ xs.length + 1) (hc : xs.length ≤ c) :
    Ints w (.slice (if c = lo then A else Option.map (fun x => { block := x.block, off := x.off + lo }) A) (xs.length - lo) (c - lo)) (xs.drop lo) := by
  have := h.sub (lo := lo) (hi := xs.length) (by omega) (Nat.le_refl _) (c - lo) (by omega) (if c = lo then A else Option.map (fun x => { block := x.block, off := x.off + lo }) A) (fun hlt => by
    rw [if_neg (by omega)]
    by_cases h0 : lo = 0
    · subst h0
      obtain ⟨A0, c0, hv, _, hx⟩ := h
      injection hv with e1 _ _
      subst e1
      obtain ⟨b, o, rfl, _⟩ := hx 0 _ (List.getElem?_eq_getElem hlt)
      rfl
    · congr 1
      funext x
      simp [Addr.add, h0])
  rw [List.take_length] at this
  exact this

theorem Ints.tail' {w : World} {A : Option Addr} {c lo : Nat} {xs : List Int} (h : Ints w (.slice A xs.length c) xs) (h1 : lo + 1 ≤ xs.length + 1) (hc : xs.length ≤ c) :
    Ints w (.slice (if c = lo then A else Option.map (fun x => x.add lo) A) (xs.length - lo) (c - lo)) (xs.drop lo) := by
  have := h.sub (lo := lo) (hi := xs.length) (by omega) (Nat.le_refl _) (c - lo) (by omega) (if c = lo then A else Option.map (fun x => x.add lo) A) (fun hlt => by rw [if_neg (by omega)])
  rw [List.take_length] at this
  exact this

set_option maxHeartbeats 1000000 in
theorem without_any (vx : Value) (X : List Int) (a : Nat) (w : World) (hX : Ints w vx X) (hl : X.length ≤ 1000) (ha : a < X.length) :
    Calls Try.prog 60 #[vx, .int .i64 a] w fun e w' => ∃ v, e = .returned v ∧ OwnI 3 w.heap.size w' v (X.take a ++ X.drop (a + 1)) ∧ Below w.heap.size w w' := by
  obtain ⟨i0, hi0, hz0, hz1, hz2⟩ := info_parts info_int8
  have hX0 := hX
  obtain ⟨A, c, rfl, hc, hh⟩ := hX
  clear hh
  have ha1 : (a : Int) ≤ (c : Int) := by omega
  have ha2 : (a : Int) + 1 ≤ (X.length : Int) := by omega
  have ha3 : IntKind.i64.wrap ((a : Int) + 1) = (a : Int) + 1 := IntWalk.i64_in _ (by omega)
  have ha4 : (0 : Int) ≤ (a : Int) + 1 := by omega
  have ha5 : ((a : Int) + 1).toNat = a + 1 := by omega
  have hI1 : Ints w (.slice A a c) (X.take a) := by
    have := hX0.sub (lo := 0) (hi := a) (by omega) (by omega) c (by omega) A (fun _ => by cases A <;> rfl)
    simpa using this
  have HI1 := Lib.hid hI1
  clear hI1
  have HI2 := Lib.hid (Ints.tail hX0 (lo := a + 1) (by omega) hc)
  go_enter Try.func60, Try.ntmps60
  go_wp2_with fail
  go_region_law (first
    | (refine step_appI rfl (.tmp 5) (.tmp 8) 22 rfl Try.underlying22 hi0 hz0 hz1 hz2 rfl (OwnI.empty w _).drew rfl (HI1.out.alloc _).drew (by simp; omega) (by simp) ?_; intro v1 w1 hown1 hb1 hk1)
    | (refine step_appI rfl (.tmp 9) (.tmp 13) 22 rfl Try.underlying22 hi0 hz0 hz1 hz2 rfl hown1 rfl (HI2.out.below (((Below.refl _ _).alloc (Nat.le_refl _) _).drew.trans hb1)) (by simp; omega) (Nat.le_trans (by simp) hb1.size) ?_; intro v2 w2 hown2 hb2 hk2))
  go_wp2_with fail
  all_goals
    go_ret
    exact ⟨_, rfl, by simpa using hown2, (((Below.refl _ _).alloc (Nat.le_refl _) _).drew.trans hb1).trans hb2⟩

theorem keepA {w w1 : World} {E Y : Obj} (hk : ∀ k, k < ((w.alloc E).alloc Y).drew.heap.size → Value.ownBlock (.slice (some ⟨w.heap.size, 0, none⟩) 0 0) ≠ some k → w1.heap[k]? = ((w.alloc E).alloc Y).drew.heap[k]?) : w1.heap[w.heap.size + 1]? = some Y := by
  rw [hk (w.heap.size + 1) (by simp [heap_drew]) (by simp [Value.ownBlock])]
  show ((w.heap.push E).push Y)[w.heap.size + 1]? = some Y
  rw [Array.getElem?_push, if_pos (by simp)]
theorem keepB {w w1 : World} {E Y : Obj} (hk : ∀ k, k < ((w.alloc Y).alloc E).drew.heap.size → Value.ownBlock (.slice (some ⟨w.heap.size + 1, 0, none⟩) 0 0) ≠ some k → w1.heap[k]? = ((w.alloc Y).alloc E).drew.heap[k]?) : w1.heap[w.heap.size]? = some Y := by
  rw [hk w.heap.size (by simp [heap_drew]; omega) (by simp [Value.ownBlock])]
  show ((w.heap.push Y).push E)[w.heap.size]? = some Y
  rw [Array.getElem?_push, if_neg (by simp), Array.getElem?_push, if_pos rfl]

set_option maxHeartbeats 1000000 in
theorem insert_any (vx : Value) (X : List Int) (a : Nat) (y : Int) (w : World) (hX : Ints w vx X) (hl : X.length ≤ 1000) (ha : a ≤ X.length) :
    Calls Try.prog 62 #[vx, .int .i64 a, .int .i64 y] w fun e w' => ∃ v, e = .returned v ∧ OwnI 3 w.heap.size w' v (X.take a ++ y :: X.drop a) ∧ Below w.heap.size w w' := by
  obtain ⟨i0, hi0, hz0, hz1, hz2⟩ := info_parts info_int8
  have hX0 := hX
  obtain ⟨A, c, rfl, hc, hh⟩ := hX
  clear hh
  have ha1 : (a : Int) ≤ (c : Int) := by omega
  have ha2 : (a : Int) ≤ (X.length : Int) := by omega
  have hI1 : Ints w (.slice A a c) (X.take a) := by
    have := hX0.sub (lo := 0) (hi := a) (by omega) (by omega) c (by omega) A (fun _ => by cases A <;> rfl)
    simpa using this
  have HI1 := Lib.hid hI1
  clear hI1
  have HI2 := Lib.hid (Ints.tail' hX0 (lo := a) (by omega) hc)
  go_enter Try.func62, Try.ntmps62
  go_wp2_with fail
  go_region_law (first
    | (refine step_appI rfl (.tmp 7) (.tmp 10) 22 rfl Try.underlying22 hi0 hz0 hz1 hz2 rfl (OwnI.emptyAt (base := w.heap.size) (by omega) (by simp only [heap_push, heap_drew, Array.getElem?_push, Array.size_push]; repeat (first | rw [if_pos trivial] | rw [if_neg (by omega)]))) rfl (HI1.out.below (by repeat (first | exact Below.refl _ _ | refine Below.drew ?_ | refine Below.alloc ?_ (by simp <;> omega) _))) (by simp; omega) (by simp <;> omega) ?_; intro v1 w1 hown1 hb1 hk1; have hB1 : Below w.heap.size w w1 := Below.trans (by repeat (first | exact Below.refl _ _ | refine Below.drew ?_ | refine Below.alloc ?_ (by simp <;> omega) _)) hb1; (first | have hy := keepA hk1 | have hy := keepB hk1 | skip); clear hk1 hb1)
    | (refine step_appI rfl (.tmp 11) (.tmp 13) 22 rfl Try.underlying22 hi0 hz0 hz1 hz2 rfl hown1 rfl (Ints.of_arr (xs := [y]) hy) (by simp; omega) hB1.size ?_; intro v2 w2 hown2 hb2 hk2; have hB2 := hB1.trans hb2; clear hk2 hb2)
    | (refine step_appI rfl (.tmp 11) (.tmp 13) 22 rfl Try.underlying22 hi0 hz0 hz1 hz2 rfl (hown1.alloc _) rfl (Ints.one w1 _ y) (by simp; omega) (hB1.alloc hB1.size _).size ?_; intro v2 w2 hown2 hb2 hk2; have hB2 := (hB1.alloc hB1.size _).trans hb2; clear hk2 hb2)
    | (refine step_appI rfl (.tmp 14) (.tmp 17) 22 rfl Try.underlying22 hi0 hz0 hz1 hz2 rfl hown2 rfl (HI2.out.below hB2) (by simp; omega) hB2.size ?_; intro v3 w3 hown3 hb3 hk3; have hB3 := hB2.trans hb3; clear hk3 hb3))
  all_goals
    go_wp2_with fail
    all_goals
      go_ret
      exact ⟨_, rfl, by simpa using hown3, hB3⟩
end Go.Proofs.Ytgclngoeglopcaa
