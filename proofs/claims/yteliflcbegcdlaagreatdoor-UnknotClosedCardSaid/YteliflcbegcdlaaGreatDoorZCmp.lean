/- grid.columns and the function that it returns. -/
/- Counting cycles by marks: plain facts. -/
/- grid.Components. -/
import Derived.Test.YteliflcbegcdlaaGreatDoorZTurn
import Derived.Test.YteliflcbegcdlaaGreatDoorZOwn
import Derived.Test.YteliflcbegcdlaaGreatDoorZUnp
import Derived.Deep.LoopGhost
namespace Go.Proofs.YteliflcbegcdlaaGreatDoor
open Go.RowKit
set_option linter.unusedVariables false
/-- the function value leads from a row to the column of its mark -/
def ColF (w : World) (v : Value) (X : List Int) : Prop :=
  ∃ g h, v = .func (.func 77) #[] #[.pointer (some ⟨g, 0, none⟩)] ∧ Arr w g 22 [.slice (some ⟨h, 0, none⟩) X.length X.length] ∧ Arr w h 3 (ints (tr X))
theorem ColF.below {w w' : World} {v : Value} {X : List Int} (h : ColF w v X) (hb : Below w.heap.size w w') : ColF w' v X := by
  obtain ⟨g, i, e, h1, h2⟩ := h
  exact ⟨g, i, e, h1.below hb h1.lt, h2.below hb h2.lt⟩
set_option maxHeartbeats 1000000 in
theorem gcolumns_any (vx : Value) (X : List Int) (w : World) (hX : Ints w vx X) (hp : Pm X) (hn : X.length ≤ 1000) :
    Calls Tryz.prog 53 #[vx] w fun e w' => ∃ v, e = .returned v ∧ ColF w' v X ∧ Below w.heap.size w w' := by
  obtain ⟨i0, hi0, hz0, hz1, hz2⟩ := info_parts info_int
  have hmk := fun W => run_make_one (P := Tryz.prog) 22 3 i0 (.int .i64 0) Tryz.underlying22 hi0 hz0 hz1 rfl (by rw [hz2]; decide) X.length (by omega) W
  clear hi0 hz0 hz1 hz2
  have hX0 := hX
  obtain ⟨A, c, rfl, hc, hh⟩ := hX
  clear hh
  go_enter Tryz.func53, Tryz.ntmps53
  go_wp2_with fail
  have hW : Arr ((w.alloc (.cells (rowOf (List.replicate X.length (Value.int .i64 0))) 3)).alloc (.cells #[.slice (some ⟨w.heap.size, 0, none⟩) X.length X.length] 22)) w.heap.size 3 (List.replicate X.length (Value.int .i64 0)) ∧
      Arr ((w.alloc (.cells (rowOf (List.replicate X.length (Value.int .i64 0))) 3)).alloc (.cells #[.slice (some ⟨w.heap.size, 0, none⟩) X.length X.length] 22)) (w.heap.size + 1) 22 [.slice (some ⟨w.heap.size, 0, none⟩) X.length X.length] ∧
      Below w.heap.size w ((w.alloc (.cells (rowOf (List.replicate X.length (Value.int .i64 0))) 3)).alloc (.cells #[.slice (some ⟨w.heap.size, 0, none⟩) X.length X.length] 22)) :=
    ⟨(Arr.new w _ _).alloc _, Arr.newAt (w.alloc _) _ [_] _ (by simp), ((Below.refl _ _).alloc (Nat.le_refl _) _).alloc (by simp) _⟩
  generalize ((w.alloc (.cells (rowOf (List.replicate X.length (Value.int .i64 0))) 3)).alloc (.cells #[.slice (some ⟨w.heap.size, 0, none⟩) X.length X.length] 22)) = w4 at hW ⊢
  obtain ⟨p0, p1, hbw⟩ := hW
  clear hmk
  go_loopw [11] (fun i wr => ∃ (k : Nat) (aX : List Int), k ≤ X.length ∧ i = .int .i64 k ∧ Arr wr w.heap.size 3 (ints aX) ∧ Arr wr (w.heap.size + 1) 22 [.slice (some ⟨w.heap.size, 0, none⟩) X.length X.length] ∧ Below w.heap.size w wr ∧ Hid (aX.length = X.length ∧ relTo mvT true k (X.drop k) aX = tr X)) (fun i _ => X.length - (intOf i).toNat)
  case atStart =>
    exact ⟨0, List.replicate X.length 0, Nat.zero_le _, rfl, by rw [ints_zero]; exact p0, p1, hbw, by simp, rfl⟩
  case round =>
    clear p0 p1 hbw
    obtain ⟨k, aX, hk, rfl, p0, p1, hbr, H⟩ := hrel
    by_cases hlt : k < X.length
    · obtain ⟨b, o, rfl, hbl, hcell⟩ := hX0.at_ hlt
      have hc' := (hbr.cell (p := ⟨b, o + k, none⟩) hbl).trans hcell
      have hg := hp.get hlt
      have H' := Lib.hid (show relTo mvT true (k + 1) (X.drop (k + 1)) (aX.set X[k].toNat k) = tr X by
        have := H.out.2
        rw [relTo_drop mvT true X aX hlt, relStep_mvT _ _ _ hg.1] at this
        exact this)
      have hle := Lib.hid H.out.1
      generalize X[k] = x at *
      obtain ⟨x, rfl⟩ := Int.eq_ofNat_of_zero_le hg.1
      rw [Int.toNat_natCast] at H'
      have hx1 : x < X.length := by omega
      have hx2 : x < aX.length := by have := hle.out; omega
      clear hcell
      have z1 := p1.cell 0
      have z2 := (p0.cell x).trans (ints_get _ hx2)
      have z3 := p0.frozen x
      go_wp2_with fail
      go_roundw
      case rel => exact ⟨k + 1, aX.set x k, by omega, by go_num, by rw [← ints_set]; exact p0.set _ _, p1.far (p := ⟨w.heap.size, x, none⟩) (by show w.heap.size + 1 ≠ w.heap.size; omega) _, hbr.setCell (Nat.le_refl _) _, by rw [List.length_set]; exact hle.out, H'.out⟩
      case measure => simp [intOf]; omega
    · obtain rfl : k = X.length := by omega
      have e1 := Lib.hid (show aX = tr X by have := H.out.2; rw [List.drop_length] at this; exact this)
      go_wp2_with fail
      go_ret
      exact ⟨_, rfl, ⟨_, _, rfl, p1, by rw [← e1.out]; exact p0⟩, hbr⟩
theorem gcolumns1_any (g h : Nat) (X : List Int) (r : Nat) (w : World) (hp : Pm X) (hr : r < X.length) (h1 : Arr w g 22 [.slice (some ⟨h, 0, none⟩) X.length X.length]) (h2 : Arr w h 3 (ints (tr X))) :
    Calls Tryz.prog 77 #[.int .i64 r, .pointer (some ⟨g, 0, none⟩)] w fun e w' => e = .returned (.int .i64 (gt (tr X) r)) ∧ w = w' := by
  have hr' : r < (tr X).length := by rw [tr_length]; exact hr
  have z1 := h1.cell 0
  have z2 := (h2.cell r).trans (ints_get _ hr')
  rw [← gt_get hr'] at z2
  have z3 : (r : Int) < (X.length : Int) := by omega
  generalize gt (tr X) r = y at *
  go_enter Tryz.func77, Tryz.ntmps77
  go_wp2_with fail
  go_ret
  exact ⟨rfl, rfl⟩
end Go.Proofs.YteliflcbegcdlaaGreatDoor

namespace Go.Proofs.YteliflcbegcdlaaGreatDoor
set_option linter.unusedVariables false
open Go.RowKit
/-- a row of marks -/
def marks (n : Nat) (S : Nat → Bool) : List Value := (List.range n).map fun j => Value.bool (S j)
theorem marks_get {n : Nat} {S : Nat → Bool} {i : Nat} (h : i < n) : (marks n S)[i]? = some (.bool (S i)) := by simp [marks, h]
theorem marks_nil (n : Nat) : marks n (fun _ => false) = List.replicate n (.bool false) := by
  apply List.ext_getElem?
  intro i
  by_cases h : i < n <;> simp [marks, h]
def mark (S : Nat → Bool) (i : Nat) : Nat → Bool := fun j => if j = i then true else S j
theorem marks_set {n : Nat} {S : Nat → Bool} {i : Nat} : (marks n S).set i (.bool true) = marks n (mark S i) := by
  apply List.ext_getElem?
  intro j
  rw [List.getElem?_set]
  by_cases hj : j < n
  · by_cases e : i = j
    · subst e; simp [marks, hj, mark]
    · simp [marks, hj, e, mark, Ne.symm e]
  · simp [marks, hj]; omega
/-- what is marked when the numbers below k have been looked at, and how many heads there are among them -/
structure Mk (f : Nat → Nat) (n k : Nat) (S : Nat → Bool) (cnt : Nat) : Prop where
  seen : ∀ j, j < n → (S j = true ↔ ∃ m, m < k ∧ Rl f m j)
  cnt : cnt = ((heads f n).filter fun i => decide (i < k)).length
section
variable {n k cnt : Nat} {f : Nat → Nat} {S : Nat → Bool}
theorem Mk.start : Mk f n 0 (fun _ => false) 0 := ⟨fun j _ => by simp, by rw [List.filter_eq_nil_iff.2 (by simp)]; rfl⟩
theorem Mk.full (h : Mk f n n S cnt) : cnt = cls f n := by
  rw [h.cnt, cls]
  congr 1
  rw [List.filter_eq_self]
  intro i hi
  have := List.mem_range.1 (List.mem_filter.1 hi).1
  simpa using this
theorem filt_succ (l : List Nat) (k : Nat) (hn : l.Nodup) : (l.filter fun i => decide (i < k + 1)).length = (l.filter fun i => decide (i < k)).length + if k ∈ l then 1 else 0 := by
  induction l with
  | nil => simp
  | cons a l ih =>
    have hn' := List.nodup_cons.1 hn
    have := ih hn'.2
    by_cases e : k = a
    · subst e
      have hnot : ¬ k ∈ l := hn'.1
      simp only [List.filter_cons, Nat.lt_succ_self, decide_true, if_true, List.length_cons, Nat.lt_irrefl, decide_false, Bool.false_eq_true, if_false, List.mem_cons_self] at this ⊢
      rw [if_neg hnot] at this
      omega
    · have e1 : (k ∈ a :: l) = (k ∈ l) := by simp [e]
      by_cases h : a < k
      · simp only [List.filter_cons, e1, show a < k + 1 from by omega, h, decide_true, if_true, List.length_cons] at this ⊢
        omega
      · simp only [List.filter_cons, e1, show ¬ a < k + 1 from by omega, h, decide_false, Bool.false_eq_true, if_false] at this ⊢
        exact this
theorem Mk.skip (hp : PermF n f) (h : Mk f n k S cnt) (hk : k < n) (hs : S k = true) : Mk f n (k + 1) S cnt := by
  obtain ⟨m, hm, hr⟩ := (h.seen k hk).1 hs
  refine ⟨fun j hj => (h.seen j hj).trans ⟨fun ⟨m', h1, h2⟩ => ⟨m', by omega, h2⟩, fun ⟨m', h1, h2⟩ => ?_⟩, ?_⟩
  · by_cases e : m' = k
    · subst e; exact ⟨m, hm, hr.trans h2⟩
    · exact ⟨m', by omega, h2⟩
  · rw [filt_succ _ _ heads_nodup, if_neg (fun hh => ((mem_heads hp).1 hh).2 m hm hr)]
    exact h.cnt
/-- the marks inside the inner loop, after t steps -/
structure Mi (f : Nat → Nat) (n k t : Nat) (S T : Nat → Bool) : Prop where
  seen : ∀ j, j < n → (T j = true ↔ S j = true ∨ ∃ s, s < t ∧ itr f s k = j)
  far : ∀ s, 0 < s → s < t → itr f s k ≠ k
theorem Mi.start : Mi f n k 0 S S := ⟨fun j _ => by simp, fun s h1 h2 => by omega⟩
theorem Mi.step {t : Nat} {T : Nat → Bool} (hp : PermF n f) (hk : k < n) (h : Mi f n k t S T) (hu : T (itr f t k) = false) : Mi f n k (t + 1) S (mark T (itr f t k)) ∧ t + 1 ≤ n := by
  have hnot : ∀ s, s < t → itr f s k ≠ itr f t k := fun s hs e => by
    have := (h.seen _ (hp.itr_lt hk t)).2 (.inr ⟨s, hs, e⟩)
    rw [hu] at this
    cases this
  have hfar : ∀ s, 0 < s → s < t + 1 → itr f s k ≠ k := fun s h1 h2 e => by
    by_cases e' : s = t
    · subst e'; exact hnot 0 h1 e.symm
    · exact h.far s h1 (by omega) e
  refine ⟨⟨fun j hj => ?_, hfar⟩, hp.apart hk hfar⟩
  unfold mark
  by_cases e : j = itr f t k
  · rw [if_pos e]
    exact ⟨fun _ => .inr ⟨t, by omega, e.symm⟩, fun _ => rfl⟩
  · rw [if_neg e, h.seen j hj]
    constructor
    · rintro (h1 | ⟨s, h1, h2⟩)
      · exact .inl h1
      · exact .inr ⟨s, by omega, h2⟩
    · rintro (h1 | ⟨s, h1, h2⟩)
      · exact .inl h1
      · by_cases e' : s = t
        · subst e'; exact absurd h2.symm e
        · exact .inr ⟨s, by omega, h2⟩
theorem Mi.done {t : Nat} {T : Nat → Bool} (hp : PermF n f) (hk : k < n) (hm : Mk f n k S cnt) (hs : S k = false) (h : Mi f n k t S T) (hu : T (itr f t k) = true) : Mk f n (k + 1) T (cnt + 1) := by
  have hno : ∀ m, m < k → ¬ Rl f m k := fun m h1 h2 => by
    have := (hm.seen k hk).2 ⟨m, h1, h2⟩
    rw [hs] at this
    cases this
  have hret : ∃ s, s < t ∧ itr f s k = itr f t k := by
    rcases (h.seen _ (hp.itr_lt hk t)).1 hu with h1 | h1
    · exfalso
      obtain ⟨m, h2, h3⟩ := (hm.seen _ (hp.itr_lt hk t)).1 h1
      exact hno m h2 (h3.trans (hp.symm hk ⟨t, rfl⟩))
    · exact h1
  obtain ⟨s, hst, e⟩ := hret
  have hper : itr f (t - s) k = k := hp.itr_inj (hp.itr_lt hk _) hk s (by rw [← itr_add, show s + (t - s) = t from by omega]; exact e.symm)
  have hall : ∀ q, ∃ s', s' < t ∧ itr f s' k = itr f q k := by
    intro q
    induction q using Nat.strongRecOn with
    | _ q ih =>
      by_cases hq : q < t
      · exact ⟨q, hq, rfl⟩
      · obtain ⟨s', h1, h2⟩ := ih (q - (t - s)) (by omega)
        refine ⟨s', h1, h2.trans ?_⟩
        rw [show itr f q k = itr f (q - (t - s) + (t - s)) k from by congr 1; omega, itr_add, hper]
  refine ⟨fun j hj => (h.seen j hj).trans ?_, ?_⟩
  · rw [hm.seen j hj]
    constructor
    · rintro (⟨m, h1, h2⟩ | ⟨s', _, h2⟩)
      · exact ⟨m, by omega, h2⟩
      · exact ⟨k, by omega, s', h2⟩
    · rintro ⟨m, h1, h2⟩
      by_cases e' : m = k
      · subst e'
        obtain ⟨q, rfl⟩ := h2
        exact .inr (hall q)
      · exact .inl ⟨m, by omega, h2⟩
  · rw [filt_succ _ _ heads_nodup, if_pos ((mem_heads hp).2 ⟨hk, fun m h1 h2 => hno m h1 h2⟩), ← hm.cnt]
end
theorem cls_le_n (f : Nat → Nat) (n : Nat) : cls f n ≤ n := by
  unfold cls heads
  exact Nat.le_trans (List.length_filter_le _ _) (by simp)
theorem Mk.cnt_le {f : Nat → Nat} {n k cnt : Nat} {S : Nat → Bool} (h : Mk f n k S cnt) : cnt ≤ n := by
  rw [h.cnt]
  exact Nat.le_trans (List.length_filter_le _ _) (cls_le_n f n)
end Go.Proofs.YteliflcbegcdlaaGreatDoor

namespace Go.Proofs.YteliflcbegcdlaaGreatDoor
open Go.RowKit
set_option linter.unusedVariables false
theorem gt_tr_fC {X O : List Int} (h : Vd X O) {i : Nat} (hi : i < X.length) : gt (tr X) (gt O i).toNat = fC X O i := by
  have hf := fC_spec h hi
  rw [← hf.2]
  exact gt_tr h.pX hf.1
set_option maxHeartbeats 2000000 in
theorem components_any (vx vo : Value) (X O : List Int) (w : World) (hX : Ints w vx X) (hO : Ints w vo O) (hv : Vd X O) :
    Calls Tryz.prog 33 #[.agg #[vx, vo]] w fun e w' => e = .returned (.int .i64 (comp X O)) ∧ Below w.heap.size w w' := by
  obtain ⟨i0, hi0, hz0, hz1, hz2⟩ := info_parts info_bool
  have hn := hv.most
  have hmk := fun W => run_make_one (P := Tryz.prog) 101 4 i0 (.bool false) Tryz.underlying101 hi0 hz0 hz1 rfl (by rw [hz2]; decide) X.length (by omega) W
  clear hi0 hz0 hz1 hz2
  have hX0 := hX
  have hO0 := hO
  obtain ⟨A, c, rfl, hc, hh⟩ := hX
  obtain ⟨A', c', rfl, hc', hh'⟩ := hO
  clear hh hh'
  have HL := Lib.hid hv.len
  have lO : O.length ≤ 40 := by have := HL.out; omega
  have HV := Lib.hid hv
  clear hv
  go_enter Tryz.func33, Tryz.ntmps33
  go_wp2_with fail
  have hW : Arr (w.alloc (.cells #[.slice A X.length c, .slice A' O.length c'] 24)) w.heap.size 24 [.slice A X.length c, .slice A' O.length c'] ∧ Below w.heap.size w (w.alloc (.cells #[.slice A X.length c, .slice A' O.length c'] 24)) :=
    ⟨Arr.new _ _ [_, _], (Below.refl _ _).alloc (Nat.le_refl _) _⟩
  generalize w.alloc (.cells #[.slice A X.length c, .slice A' O.length c'] 24) = w4 at hW ⊢
  obtain ⟨q0, hb4⟩ := hW
  refine (valid_any _ _ X O _ (hX0.below hb4) (hO0.below hb4) (by omega) (by omega)).mono ?_
  rw [(validB_iff X O).2 HV.out]
  rintro e w5 ⟨rfl, hb5⟩
  have hbw5 := hb4.trans (hb5.mono hb4.size)
  have p0 := q0.below hb5 q0.lt
  clear q0 hb5 hb4
  have y0 := p0.cell 0
  have y1 := p0.cell 1
  go_wp2_with fail
  refine (gcolumns_any _ X _ (hX0.below hbw5) HV.out.pX (by omega)).mono ?_
  rintro e w6 ⟨v6, rfl, ⟨g, h, rfl, a1, a2⟩, hb6⟩
  have hbw6 := hbw5.trans (hb6.mono hbw5.size)
  have p6 := p0.below hb6 p0.lt
  clear p0 hb6 hbw5 y0 y1
  have y0 := p6.cell 0
  have y1 := p6.cell 1
  have l6 := p6.lt
  go_wp2_with fail
  have hW : Arr (w6.alloc (.cells (rowOf (List.replicate X.length (Value.bool false))) 4)) w6.heap.size 4 (marks X.length (fun _ => false)) ∧ Arr (w6.alloc (.cells (rowOf (List.replicate X.length (Value.bool false))) 4)) w.heap.size 24 [.slice A X.length c, .slice A' O.length c'] ∧ Arr (w6.alloc (.cells (rowOf (List.replicate X.length (Value.bool false))) 4)) g 22 [.slice (some ⟨h, 0, none⟩) X.length X.length] ∧ Arr (w6.alloc (.cells (rowOf (List.replicate X.length (Value.bool false))) 4)) h 3 (ints (tr X)) ∧ Below w.heap.size w (w6.alloc (.cells (rowOf (List.replicate X.length (Value.bool false))) 4)) :=
    ⟨by rw [marks_nil]; exact Arr.new w6 _ _, p6.alloc _, a1.alloc _, a2.alloc _, hbw6.alloc hbw6.size _⟩
  have lg := a1.lt
  have lh := a2.lt
  have lw := hbw6.size
  clear hmk y0 y1 p6 a1 a2 hbw6
  generalize hB : w6.heap.size = B at *
  generalize w6.alloc (.cells (rowOf (List.replicate X.length (Value.bool false))) 4) = w7 at hW ⊢
  clear hB
  obtain ⟨s0, p0, a1, a2, hbw⟩ := hW
  go_loopg [5, 6, 20] X.length (fun gk s5 s6 s20 wr => ∃ (k cnt : Nat) (S : Nat → Bool), k ≤ X.length ∧ gk = X.length - k ∧ s5 = .int .i64 cnt ∧ s20 = .int .i64 k ∧ Arr wr B 4 (marks X.length S) ∧ Arr wr w.heap.size 24 [.slice A X.length c, .slice A' O.length c'] ∧ Arr wr g 22 [.slice (some ⟨h, 0, none⟩) X.length X.length] ∧ Arr wr h 3 (ints (tr X)) ∧ Below w.heap.size w wr ∧ Hid (Mk (fC X O) X.length k S cnt))
  case atStart => exact ⟨0, 0, _, Nat.zero_le _, rfl, rfl, rfl, s0, p0, a1, a2, hbw, Mk.start⟩
  case round =>
    clear s0 p0 a1 a2 hbw
    obtain ⟨k, cnt, S, hk, rfl, rfl, rfl, s0, p0, a1, a2, hbr, HM⟩ := hrel
    have y0 := p0.cell 0
    have y1 := p0.cell 1
    have hcn := HM.out.cnt_le
    by_cases hlt : k < X.length
    · have z0 := (s0.cell k).trans (marks_get hlt)
      have z1 : (k : Int) < (X.length : Int) := by omega
      cases hS : S k with
      | true =>
        rw [hS] at z0
        have HM' := Lib.hid (HM.out.skip (fC_perm HV.out) hlt hS)
        clear hS HM
        go_wp2_with fail
        go_roundg (X.length - (k + 1))
        case measure => omega
        case rel => exact ⟨k + 1, cnt, S, by omega, rfl, rfl, by go_num, s0, p0, a1, a2, hbr, HM'⟩
      | false =>
        rw [hS] at z0
        have HS := Lib.hid hS
        clear hS
        go_wp2_with fail
        obtain ⟨wo, rfl⟩ : ∃ wo : World, wo = wr := ⟨_, rfl⟩
        go_loopg [6] X.length (fun gt' s6 wi => ∃ (t : Nat) (T : Nat → Bool), t ≤ X.length ∧ gt' = X.length - t ∧ s6 = .int .i64 (itr (fC X O) t k) ∧ Arr wi B 4 (marks X.length T) ∧ Arr wi w.heap.size 24 [.slice A X.length c, .slice A' O.length c'] ∧ Arr wi g 22 [.slice (some ⟨h, 0, none⟩) X.length X.length] ∧ Arr wi h 3 (ints (tr X)) ∧ Below w.heap.size w wi ∧ Hid (Mi (fC X O) X.length k t S T))
        case atStart => exact ⟨0, S, Nat.zero_le _, rfl, rfl, s0, p0, a1, a2, hbr, Mi.start⟩
        case round =>
          clear s0 p0 a1 a2 hbr y0 y1 z0
          obtain ⟨t, T, ht, rfl, rfl, s0, p0, a1, a2, hbi, HI⟩ := hrel
          have hi := (fC_perm HV.out).itr_lt hlt t
          have z0 := (s0.cell (itr (fC X O) t k)).trans (marks_get hi)
          have zf := s0.frozen (itr (fC X O) t k)
          have y0 := p0.cell 0
          have y1 := p0.cell 1
          cases hT : T (itr (fC X O) t k) with
          | true =>
            rw [hT] at z0
            have HM' := Lib.hid (HI.out.done (fC_perm HV.out) hlt HM.out HS.out hT)
            clear hT
            generalize itr (fC X O) t k = i at *
            have z1 : (i : Int) < (X.length : Int) := by omega
            go_wp2_with fail
            go_roundg (X.length - (k + 1))
            case measure => omega
            case rel => exact ⟨k + 1, cnt + 1, T, by omega, rfl, by go_num, by go_num, s0, p0, a1, a2, hbi, HM'⟩
          | false =>
            rw [hT] at z0
            obtain ⟨hm, hle⟩ := HI.out.step (fC_perm HV.out) hlt hT
            have HI' := Lib.hid hm
            have hiO : itr (fC X O) t k < O.length := by have := HL.out; omega
            obtain ⟨b2, o2, rfl, hb2, hc2⟩ := hO0.at_ hiO
            rw [← gt_get hiO] at hc2
            have hr := HV.out.oX hi
            have HF := Lib.hid (gt_tr_fC HV.out hi)
            have hnx := Lib.hid (show itr (fC X O) (t + 1) k = fC X O (itr (fC X O) t k) from rfl)
            clear hT hm
            generalize itr (fC X O) t k = i at *
            generalize gt O i = r at *
            obtain ⟨r, rfl⟩ := Int.eq_ofNat_of_zero_le hr.1
            rw [Int.toNat_natCast] at HF
            have z1 : (i : Int) < (X.length : Int) := by omega
            have z2 : (i : Int) < (O.length : Int) := by omega
            have hne1 : B ≠ w.heap.size := by omega
            have hne2 : B ≠ g := by omega
            have hne3 : B ≠ h := by omega
            have hbi' : Below w.heap.size w (wr.setCell ⟨B, i, none⟩ (.bool true)) := hbi.setCell (by show w.heap.size ≤ B; omega) _
            have p0' : Arr (wr.setCell ⟨B, i, none⟩ (.bool true)) w.heap.size 24 _ := p0.far (p := ⟨B, i, none⟩) (Ne.symm hne1) _
            have a1' : Arr (wr.setCell ⟨B, i, none⟩ (.bool true)) g 22 _ := a1.far (p := ⟨B, i, none⟩) (Ne.symm hne2) _
            have a2' : Arr (wr.setCell ⟨B, i, none⟩ (.bool true)) h 3 _ := a2.far (p := ⟨B, i, none⟩) (Ne.symm hne3) _
            have s0' : Arr (wr.setCell ⟨B, i, none⟩ (.bool true)) B 4 (marks X.length (mark T i)) := by rw [← marks_set]; exact s0.set i (.bool true)
            have x2 := (hbi'.cell (p := ⟨b2, o2 + i, none⟩) hb2).trans hc2
            have x0 := p0'.cell 1
            clear hc2
            go_wp2_with fail
            refine (gcolumns1_any g h X r _ HV.out.pX (by omega) a1' a2').mono ?_
            rw [HF.out, ← hnx.out]
            rintro e w9 ⟨rfl, rfl⟩
            go_wp2_with fail
            go_roundg (X.length - (t + 1))
            case measure => omega
            case rel => exact ⟨t + 1, mark T i, by omega, rfl, rfl, s0', p0', a1', a2', hbi', HI'⟩
    · have hk2 : k = X.length := by omega
      have hfin := Lib.hid (show cnt = comp X O by have := HM.out; rw [hk2] at this; exact this.full)
      clear hk2
      go_wp2_with fail
      go_ret
      exact ⟨by rw [hfin.out]; rfl, hbr⟩
end Go.Proofs.YteliflcbegcdlaaGreatDoor
