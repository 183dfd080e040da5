/- unravelref13: before, far, plus. -/
import Derived.Test.YtbfggncmjdhapaaGreatDoorZSlb
import Derived.Test.YtbfggncmjdhapaaGreatDoorZBsm
import Derived.Test.YtbfggncmjdhapaaGreatDoorZPhx
import Derived.Test.YtbfggncmjdhapaaGreatDoorZPhs
import Derived.Outline
import Derived.Deep.CutBlock
namespace Go.Proofs.YtbfggncmjdhapaaGreatDoor
open Go.RowKit
set_option linter.unusedVariables false

instance kbDec (a b : K2) : Decidable (kb a b) := by unfold kb; infer_instance
/-- a term added to terms in order -/
def plusL : List T2 → T2 → List T2
  | [], t => [t]
  | s :: l, t => if kb s.1 t.1 then s :: plusL l t else if s.1 = t.1 then (s.1, s.2 + t.2) :: l else t :: s :: l
theorem plusL_old {t : T2} : ∀ {l : List T2} {m : Nat} (hm : m < l.length) (hp : ∀ j (hj : j < l.length), j < m → kb l[j].1 t.1) (he : l[m].1 = t.1), plusL l t = l.set m (l[m].1, l[m].2 + t.2)
  | [], m, hm, _, _ => by simp at hm
  | s :: l, 0, hm, hp, he => by
    have h1 : s.1 = t.1 := he
    rw [plusL, if_neg (by rw [h1]; exact fun h => kb_ne h rfl), if_pos h1]; rfl
  | s :: l, m + 1, hm, hp, he => by
    have h1 : kb s.1 t.1 := hp 0 (by simp) (by omega)
    have h2 := plusL_old (t := t) (l := l) (m := m) (by simpa using hm) (fun j hj h => hp (j + 1) (by simpa using hj) (by omega)) he
    rw [plusL, if_pos h1, h2]; rfl
theorem plusL_new {t : T2} : ∀ {l : List T2} {m : Nat} (hm : m ≤ l.length) (hp : ∀ j (hj : j < l.length), j < m → kb l[j].1 t.1) (hn : ∀ h : m < l.length, ¬ kb l[m].1 t.1 ∧ l[m].1 ≠ t.1), plusL l t = l.take m ++ [t] ++ l.drop m
  | [], m, hm, _, _ => by
    have : m = 0 := by simpa using hm
    subst this; rfl
  | s :: l, 0, hm, hp, hn => by
    have h1 := hn (by simp)
    have a1 : ¬ kb s.1 t.1 := h1.1
    have a2 : ¬ s.1 = t.1 := h1.2
    rw [plusL, if_neg a1, if_neg a2]; rfl
  | s :: l, m + 1, hm, hp, hn => by
    have h1 : kb s.1 t.1 := hp 0 (by simp) (by omega)
    have h2 := plusL_new (t := t) (l := l) (m := m) (by simpa using hm) (fun j hj h => hp (j + 1) (by simpa using hj) (by omega)) (fun h => hn (by simpa using h))
    rw [plusL, if_pos h1, h2]; rfl
theorem plusL_len (l : List T2) (t : T2) : (plusL l t).length ≤ l.length + 1 := by
  induction l with
  | nil => simp [plusL]
  | cons s l ih =>
    rw [plusL]
    split
    · simp; omega
    · split <;> simp
theorem plusL_cg (l : List T2) (t : T2) (e : K2) : cg2 (plusL l t) e = cg2 l e + cg2 [t] e := by
  induction l with
  | nil => simp [plusL, cg2]
  | cons s l ih =>
    rw [plusL]
    split
    · rw [cg2_cons, ih]; simp only [cg2_cons, cg2_nil]; omega
    · split
      · next h =>
        simp only [cg2_cons, cg2_nil]
        rw [← h]
        split <;> omega
      · simp only [cg2_cons, cg2_nil]
        omega
theorem plusL_mem {l : List T2} {t s : T2} (h : s ∈ plusL l t) : s.1 = t.1 ∨ ∃ u ∈ l, u.1 = s.1 := by
  induction l with
  | nil => simp [plusL] at h; exact .inl (by rw [h])
  | cons u l ih =>
    rw [plusL] at h
    split at h
    · rcases List.mem_cons.1 h with rfl | h
      · exact .inr ⟨_, List.mem_cons_self .., rfl⟩
      · rcases ih h with h | ⟨v, hv, he⟩
        · exact .inl h
        · exact .inr ⟨v, List.mem_cons_of_mem _ hv, he⟩
    · split at h
      · rcases List.mem_cons.1 h with rfl | h
        · exact .inr ⟨u, List.mem_cons_self .., rfl⟩
        · exact .inr ⟨s, List.mem_cons_of_mem _ h, rfl⟩
      · rcases List.mem_cons.1 h with rfl | h
        · exact .inl rfl
        · exact .inr ⟨s, h, rfl⟩
theorem plusL_srt {l : List T2} (t : T2) (h : Srt2 l) : Srt2 (plusL l t) := by
  induction l with
  | nil => exact List.pairwise_singleton _ _
  | cons s l ih =>
    obtain ⟨h1, h2⟩ := List.pairwise_cons.1 h
    rw [plusL]
    split
    · next hk =>
      refine List.pairwise_cons.2 ⟨fun u hu => ?_, ih h2⟩
      rcases plusL_mem hu with he | ⟨v, hv, he⟩
      · rw [he]; exact hk
      · rw [← he]; exact h1 v hv
    · next hk =>
      split
      · exact List.pairwise_cons.2 ⟨fun u hu => h1 u hu, h2⟩
      · next hne =>
        have hk2 : kb t.1 s.1 := by
          rcases kb_tri s.1 t.1 with q | q | q
          · exact absurd q hk
          · exact absurd q hne
          · exact q
        refine List.pairwise_cons.2 ⟨fun u hu => ?_, h⟩
        rcases List.mem_cons.1 hu with rfl | hu
        · exact hk2
        · exact kb_trans hk2 (h1 u hu)
theorem info_rt : (Tryz.prog.info? 34).map (fun i => (i.zero, i.size, i.bytes)) = some (some (.agg #[.int .i64 0, .int .i64 0, .int .i64 0]), 3, 24) := by kernel_rfl
theorem elR : ElA Tryz.prog 34 3 tB where
  ex := by
    obtain ⟨i, hi, hz, hs, hb⟩ := info_parts info_rt
    exact ⟨i, _, 24, hi, hz, hs, hb, rfl, by omega⟩
  pos := by omega
  len := fun x => rfl
  one := fun x q h => by unfold tB at h; simp at h; rcases h with rfl | rfl | rfl <;> rfl
theorem SlA.at3 {w : World} {A : Option Addr} {n c k : Nat} {xs : List T2} (h : SlA tB w (.slice A n c) xs) (hk : k < xs.length) : ∃ b o, A = some ⟨b, o, none⟩ ∧ n = xs.length ∧ w.cell? ⟨b, o + k * 3, none⟩ = some (.int .i64 xs[k].1.1) ∧ w.cell? ⟨b, o + k * 3 + 1, none⟩ = some (.int .i64 xs[k].1.2) ∧ w.cell? ⟨b, o + k * 3 + 2, none⟩ = some (.int .i64 xs[k].2) := by
  obtain ⟨A', c', hv, hc, hx⟩ := h
  injection hv with e1 e2 e3
  subst e1
  have h0 := flat_get (enc := tB) (sz := 3) (fun x => rfl) xs k 0 hk (by omega)
  have h1 := flat_get (enc := tB) (sz := 3) (fun x => rfl) xs k 1 hk (by omega)
  have h2 := flat_get (enc := tB) (sz := 3) (fun x => rfl) xs k 2 hk (by omega)
  obtain ⟨b, o, hA, hcell⟩ := hx _ _ h0
  obtain ⟨b', o', hA', hcell'⟩ := hx _ _ h1
  obtain ⟨b2, o2, hA2, hcell2⟩ := hx _ _ h2
  rw [hA] at hA' hA2
  injection hA' with hA'
  injection hA' with q1 q2
  injection hA2 with hA2
  injection hA2 with q3 q4
  subst q1 q2 q3 q4
  exact ⟨b, o, hA, e2, hcell, by rw [Nat.add_assoc]; exact hcell', by rw [Nat.add_assoc]; exact hcell2⟩
theorem SlA.cells3 {w : World} {b o n c k : Nat} {xs : List T2} (h : SlA tB w (.slice (some ⟨b, o, none⟩) n c) xs) (hk : k < xs.length) : w.cell? ⟨b, o + k * 3, none⟩ = some (.int .i64 xs[k].1.1) ∧ w.cell? ⟨b, o + k * 3 + 1, none⟩ = some (.int .i64 xs[k].1.2) ∧ w.cell? ⟨b, o + k * 3 + 2, none⟩ = some (.int .i64 xs[k].2) := by
  obtain ⟨b', o', hA, _, h1, h2, h3⟩ := h.at3 hk
  injection hA with hA
  injection hA with h4 h5
  subst h4 h5
  exact ⟨h1, h2, h3⟩
/-- an element of an own slice of terms, and the replacement of its coefficient -/
theorem OwnA.cset {base : Nat} {w : World} {A : Option Addr} {n c k : Nat} {xs : List T2} (h : OwnA 34 3 tB base w (.slice A n c) xs) (hk : k < xs.length) : ∃ b, A = some ⟨b, 0, none⟩ ∧ base ≤ b ∧ n = xs.length ∧ w.cell? ⟨b, k * 3, none⟩ = some (.int .i64 xs[k].1.1) ∧ w.cell? ⟨b, k * 3 + 1, none⟩ = some (.int .i64 xs[k].1.2) ∧ w.cell? ⟨b, k * 3 + 2, none⟩ = some (.int .i64 xs[k].2) ∧ w.frozen? ⟨b, k * 3 + 2, none⟩ = false ∧ ∀ y, OwnA 34 3 tB base (w.setCell ⟨b, k * 3 + 2, none⟩ (.int .i64 y)) (.slice A n c) (xs.set k (xs[k].1, y)) := by
  have hs := h.sl
  rcases h.2 with ⟨h1, h0⟩ | ⟨b, cap, cur, hv, hb, hh, hn, hm, hc', ht⟩
  · omega
  · injection hv with e1 e2 e3
    subst e1 e3
    obtain ⟨b', o', hA, hn2, c0, c1, c2⟩ := hs.at3 hk
    injection hA with hA
    injection hA with q1 q2
    subst q1 q2
    rw [Nat.zero_add] at c0 c1 c2
    refine ⟨b, rfl, hb, e2, c0, c1, c2, frozen_of_row w b _ _ 34 hh, fun y => ?_⟩
    have hlen : (xs.set k (xs[k].1, y)).length = xs.length := List.length_set
    have hf : (xs.set k (xs[k].1, y)).flatMap tB = (xs.flatMap tB).set (k * 3 + 2) (.int .i64 y) := by
      apply List.ext_getElem?
      intro j
      have hl1 := flat_len (enc := tB) (sz := 3) (fun x => rfl) xs
      have hl2 := flat_len (enc := tB) (sz := 3) (fun x => rfl) (xs.set k (xs[k].1, y))
      rw [hlen] at hl2
      rw [List.getElem?_set]
      by_cases hj : j < xs.length * 3
      · have hm2 : j / 3 < xs.length := by omega
        have hg1 := flat_get (enc := tB) (sz := 3) (fun x => rfl) (xs.set k (xs[k].1, y)) (j / 3) (j % 3) (by rw [hlen]; exact hm2) (by omega)
        have hg2 := flat_get (enc := tB) (sz := 3) (fun x => rfl) xs (j / 3) (j % 3) hm2 (by omega)
        rw [show j / 3 * 3 + j % 3 = j by omega] at hg1 hg2
        rw [hg1, hg2, List.getElem_set]
        by_cases e : k = j / 3
        · rw [if_pos e]
          rcases (by omega : j % 3 = 0 ∨ j % 3 = 1 ∨ j % 3 = 2) with q | q | q
          · rw [q, if_neg (by omega)]; subst e; rfl
          · rw [q, if_neg (by omega)]; subst e; rfl
          · rw [q, if_pos (by omega), if_pos (by omega)]; rfl
        · rw [if_neg e, if_neg (by omega)]
      · rw [List.getElem?_eq_none (by omega), if_neg (by omega), List.getElem?_eq_none (by omega)]
    unfold OwnA
    rw [hlen]
    refine ⟨by rw [hf, List.length_set]; exact h.1, .inr ⟨b, c, cur.setIfInBounds (k * 3 + 2) (.int .i64 y), by rw [e2], hb, heap_setCell_same w b _ _ _ _ hh, by rw [← e2]; exact e2 ▸ hn, hm, by rw [Array.size_setIfInBounds]; exact hc', ?_⟩⟩
    rw [Array.toList_setIfInBounds, hf, ← ht, List.take_set]
set_option maxHeartbeats 1000000 in
theorem before_any (x y : T2) (w : World) : Calls Tryz.prog 105 #[.agg #[.int .i64 x.1.1, .int .i64 x.1.2, .int .i64 x.2], .agg #[.int .i64 y.1.1, .int .i64 y.1.2, .int .i64 y.2]] w fun e w' => e = .returned (.bool (decide (kb x.1 y.1))) ∧ Below w.heap.size w w' := by
  obtain ⟨⟨x1, x2⟩, xc⟩ := x
  obtain ⟨⟨y1, y2⟩, yc⟩ := y
  simp only
  have hW : ∀ W, W = (w.alloc (.cells #[.int .i64 x1, .int .i64 x2, .int .i64 xc] 34)).alloc (.cells #[.int .i64 y1, .int .i64 y2, .int .i64 yc] 34) → Arr W w.heap.size 34 [.int .i64 x1, .int .i64 x2, .int .i64 xc] ∧ Arr W (w.heap.size + 1) 34 [.int .i64 y1, .int .i64 y2, .int .i64 yc] ∧ Below w.heap.size w W := by
    intro W hW
    subst hW
    exact ⟨(Arr.new _ _ [_, _, _]).alloc _, Arr.newAt (w.alloc _) _ [_, _, _] _ (by simp), ((Below.refl _ _).alloc (Nat.le_refl _) _).alloc (by simp) _⟩
  by_cases h1 : x1 < y1
  · have z1 : x1 < y1 := h1
    have E := Lib.hid (show decide (kb (x1, x2) (y1, y2)) = true from decide_eq_true (.inl h1))
    go_enter Tryz.func105, Tryz.ntmps105
    go_upto_region 1 with fail
    generalize (w.alloc (.cells #[.int .i64 x1, .int .i64 x2, .int .i64 xc] 34)).alloc (.cells #[.int .i64 y1, .int .i64 y2, .int .i64 yc] 34) = w3 at hW ⊢
    obtain ⟨q1, q2, hb3⟩ := hW w3 rfl
    have c0 := q1.cell 0
    have c1 := q1.cell 1
    have d0 := q2.cell 0
    have d1 := q2.cell 1
    have HB := Lib.hid hb3
    clear hW q1 q2 hb3
    go_wp2_with fail
    go_ret
    exact ⟨by rw [E.out]; rfl, HB.out⟩
  · by_cases h2 : x1 = y1
    · subst h2
      by_cases h3 : x2 < y2
      · have z3 : x2 < y2 := h3
        have E := Lib.hid (show decide (kb (x1, x2) (x1, y2)) = true from decide_eq_true (.inr ⟨rfl, h3⟩))
        go_enter Tryz.func105, Tryz.ntmps105
        go_upto_region 1 with fail
        generalize (w.alloc (.cells #[.int .i64 x1, .int .i64 x2, .int .i64 xc] 34)).alloc (.cells #[.int .i64 x1, .int .i64 y2, .int .i64 yc] 34) = w3 at hW ⊢
        obtain ⟨q1, q2, hb3⟩ := hW w3 rfl
        have c0 := q1.cell 0
        have c1 := q1.cell 1
        have d0 := q2.cell 0
        have d1 := q2.cell 1
        have HB := Lib.hid hb3
        clear hW q1 q2 hb3 h3
        go_wp2_with fail
        go_ret
        exact ⟨by rw [E.out]; rfl, HB.out⟩
      · have z3 : ¬ x2 < y2 := h3
        have E := Lib.hid (show decide (kb (x1, x2) (x1, y2)) = false from decide_eq_false (fun h => h.elim h1 (fun h => h3 h.2)))
        go_enter Tryz.func105, Tryz.ntmps105
        go_upto_region 1 with fail
        generalize (w.alloc (.cells #[.int .i64 x1, .int .i64 x2, .int .i64 xc] 34)).alloc (.cells #[.int .i64 x1, .int .i64 y2, .int .i64 yc] 34) = w3 at hW ⊢
        obtain ⟨q1, q2, hb3⟩ := hW w3 rfl
        have c0 := q1.cell 0
        have c1 := q1.cell 1
        have d0 := q2.cell 0
        have d1 := q2.cell 1
        have HB := Lib.hid hb3
        clear hW q1 q2 hb3 h3
        go_wp2_with fail
        go_ret
        exact ⟨by rw [E.out]; rfl, HB.out⟩
    · have z2 : (x1 == y1) = false := beq_eq_false_iff_ne.2 h2
      have E := Lib.hid (show decide (kb (x1, x2) (y1, y2)) = false from decide_eq_false (fun h => h.elim h1 (fun h => h2 h.1)))
      go_enter Tryz.func105, Tryz.ntmps105
      go_upto_region 1 with fail
      generalize (w.alloc (.cells #[.int .i64 x1, .int .i64 x2, .int .i64 xc] 34)).alloc (.cells #[.int .i64 y1, .int .i64 y2, .int .i64 yc] 34) = w3 at hW ⊢
      obtain ⟨q1, q2, hb3⟩ := hW w3 rfl
      have c0 := q1.cell 0
      have c1 := q1.cell 1
      have d0 := q2.cell 0
      have d1 := q2.cell 1
      have HB := Lib.hid hb3
      clear hW q1 q2 hb3 h2
      go_wp2_with fail
      go_ret
      exact ⟨by rw [E.out]; rfl, HB.out⟩
theorem far_any (n m : Int) (w : World) (h0 : 0 ≤ m) (h1 : m ≤ 4611686018427387904) : Calls Tryz.prog 91 #[.int .i64 n, .int .i64 m] w fun e w' => e = .returned (.bool (decide (m < n ∨ n < -m))) ∧ w' = w := by
  obtain ⟨D, hD⟩ : ∃ D, D = decide (m < n ∨ n < -m) := ⟨_, rfl⟩
  rw [← hD]
  have HD := Lib.hid hD
  clear hD
  by_cases c1 : n > m
  · have E := Lib.hid (show D = true from HD.out.trans (decide_eq_true (.inl c1)))
    go_enter Tryz.func91, Tryz.ntmps91
    go_wp2_with fail
    go_ret
    exact ⟨by rw [E.out]; rfl, rfl⟩
  · by_cases c2 : n < -m
    · have E := Lib.hid (show D = true from HD.out.trans (decide_eq_true (.inr c2)))
      go_enter Tryz.func91, Tryz.ntmps91
      go_wp2_with fail
      go_ret
      exact ⟨by rw [E.out]; rfl, rfl⟩
    · have E := Lib.hid (show D = false from HD.out.trans (decide_eq_false (fun h => h.elim c1 c2)))
      go_enter Tryz.func91, Tryz.ntmps91
      go_wp2_with fail
      go_ret
      exact ⟨by rw [E.out]; rfl, rfl⟩
set_option maxHeartbeats 4000000 in
set_option maxRecDepth 100000 in
theorem plus_ref (v : Value) (l : List T2) (t : T2) (w : World) (hs : SlA tB w v l) (hl : l.length ≤ 1000000) (hb1 : ∀ s ∈ l, -2305843009213693952 ≤ s.2 ∧ s.2 ≤ 2305843009213693952) (hb2 : -2305843009213693952 ≤ t.2 ∧ t.2 ≤ 2305843009213693952) :
    Calls Tryz.prog 90 #[v, .agg #[.int .i64 t.1.1, .int .i64 t.1.2, .int .i64 t.2]] w fun e w' => ∃ u, e = .returned u ∧ SlA tB w' u (plusL l t) ∧ Below w.heap.size w w' := by
  have HS := Lib.hid (fun W (hb : Below w.heap.size w W) => hs.below hb)
  have HLB := Lib.hid hb1
  have HTB := Lib.hid hb2
  obtain ⟨A, c, rfl, hcA, _⟩ := hs
  obtain ⟨⟨t1, t2⟩, t3⟩ := t
  simp only at HTB ⊢
  have hW : ∀ W, W = w.alloc (.cells #[.int .i64 t1, .int .i64 t2, .int .i64 t3] 34) → Arr W w.heap.size 34 [.int .i64 t1, .int .i64 t2, .int .i64 t3] ∧ Below w.heap.size w W := by
    intro W hW
    subst hW
    exact ⟨Arr.new _ _ [_, _, _], (Below.refl _ _).alloc (Nat.le_refl _) _⟩
  clear hb1 hb2
  obtain ⟨n, hn⟩ : ∃ n, n = l.length := ⟨_, rfl⟩
  rw [← hn] at hl hcA HS ⊢
  have HN := Lib.hid hn
  clear hn
  go_enter Tryz.func90, Tryz.ntmps90
  go_upto_region 1 with fail
  generalize (w.alloc (.cells #[.int .i64 t1, .int .i64 t2, .int .i64 t3] 34)) = w3 at hW ⊢
  obtain ⟨qx, hb3⟩ := hW w3 rfl
  obtain ⟨B1, hB1⟩ : ∃ B, B = w.heap.size := ⟨_, rfl⟩
  rw [← hB1] at qx ⊢
  have Q0 := Lib.hid qx
  have HB0 := Lib.hid hb3
  clear hW qx hb3 hB1
  go_wp2_with fail
  go_loopg [5] n (fun gk s5 wr => ∃ m : Nat, m ≤ n ∧ gk = n - m ∧ s5 = .int .i64 (m : Int) ∧ Hid (∀ j (hj : j < l.length), j < m → kb l[j].1 (t1, t2)) ∧ Arr wr B1 34 [.int .i64 t1, .int .i64 t2, .int .i64 t3] ∧ Below w.heap.size w wr)
  case atStart => exact ⟨0, Nat.zero_le _, rfl, rfl, Lib.hid (fun j hj h => by omega), Q0.out, HB0.out⟩
  case round =>
    obtain ⟨m, hi, rfl, rfl, HP, hq, hbr⟩ := hrel
    have Q := Lib.hid hq
    have HB := Lib.hid hbr
    clear Q0 HB0 hq hbr
    obtain ⟨D, hD⟩ : ∃ D, D = decide (∃ h : m < l.length, l[m].1 = (t1, t2)) := ⟨_, rfl⟩
    by_cases hrun : ∃ h : m < l.length, kb l[m].1 (t1, t2)
    · obtain ⟨hiL, hkb⟩ := hrun
      have HZ1 := Lib.hid (show (m : Int) < (n : Int) by have := HN.out; omega)
      obtain ⟨b, o, rfl, -, -, -, -⟩ := (HS.out wr HB.out).at3 hiL
      have HLC := Lib.hid (fun W (hb : Below wr.heap.size wr W) => (HS.out W (HB.out.trans (hb.mono HB.out.size))).cells3 hiL)
      have HP2 := Lib.hid (show ∀ j (hj : j < l.length), j < m + 1 → kb l[j].1 (t1, t2) from fun j hj h => by
        by_cases e : j = m
        · subst e; exact hkb
        · exact HP.out j hj (by omega))
      generalize l[m] = y at HLC hkb
      obtain ⟨⟨y1, y2⟩, y3⟩ := y
      simp only at HLC hkb
      have HKB := Lib.hid (show decide (kb (y1, y2) (t1, t2)) = true from decide_eq_true hkb)
      clear HP hkb hD
      go_upto_region 2 with fail
      refine wp_region_phy (fun a b => Below a.heap.size a b) (fun h k => h.trans (k.mono h.size)) ((Below.refl _ _).drew) (by kernel_rfl) (by kernel_rfl) (by kernel_rfl) (by kernel_rfl) (phiT (fun i => ([some (.int .i64 (m : Int)), some (.slice (some ⟨b, o, none⟩) n c), some (.int .i64 (n : Int)), some (.bool true), some (.bool true), some (.slice (some ⟨b, o, none⟩) n c), some (.int .i64 (m : Int)), some (.pointer (some ⟨b, o + m * 3, none⟩)), some (.agg #[.int .i64 y1, .int .i64 y2, .int .i64 y3]), some (.agg #[.int .i64 t1, .int .i64 t2, .int .i64 t3]), some (.bool true), some (.bool true)] : List (Option Value)).getD i none) (fun i v w => True)) (fun i v w w' h hb => ?_) ⟨?_, ?_, ?_, ?_, ?_, ?_, ?_, ?_, ?_, ?_, ?_, ?_, trivial⟩ ?_
      · unfold phiT at h ⊢
        split
        · next u hu => rw [hu] at h; exact h
        · next hu =>
          rw [hu] at h
          exact True.intro
      · intro x w1 bA hT hdep hold hb
        refine .inl ⟨trivial, ?_⟩
        have e5 : bA.tmps[5]?.getD undef = .int .i64 (m : Int) := hb 5
        refine phx_run (.int .i64 (m : Int)) ?_ (Below.refl _ _) rfl
        clear hb hdep hold
        go_simp
      · intro x w1 bA hT hdep hold hb
        refine .inl ⟨trivial, ?_⟩
        have e0 : bA.tmps[0]?.getD undef = .slice (some ⟨b, o, none⟩) n c := hb 0
        refine phx_run (.slice (some ⟨b, o, none⟩) n c) ?_ (Below.refl _ _) rfl
        clear hb hdep hold
        go_simp
      · intro x w1 bA hT hdep hold hb
        refine .inl ⟨trivial, ?_⟩
        have e8 : bA.tmps[8]?.getD undef = .slice (some ⟨b, o, none⟩) n c := (hb 8).trans (hdep 1 (by decide))
        refine phx_run (.int .i64 (n : Int)) ?_ (Below.refl _ _) rfl
        clear hb hdep hold
        go_simp
      · intro x w1 bA hT hdep hold hb
        refine .inl ⟨trivial, ?_⟩
        have e7 : bA.tmps[7]?.getD undef = .int .i64 (m : Int) := (hb 7).trans (hdep 0 (by decide))
        have e9 : bA.tmps[9]?.getD undef = .int .i64 (n : Int) := (hb 9).trans (hdep 2 (by decide))
        have zz := HZ1.out
        refine phx_run (.bool true) ?_ (Below.refl _ _) rfl
        clear hb hdep hold
        go_simp
      · intro x w1 bA hT hdep hold hb
        refine .inl ⟨trivial, ?_⟩
        have e10 : bA.tmps[10]?.getD undef = .bool true := (hb 10).trans (hdep 3 (by decide))
        refine phx_run (.bool true) ?_ (Below.refl _ _) rfl
        clear hb hdep hold
        go_simp
      · intro x w1 bA hT hdep hold hb
        refine .inl ⟨⟨11, rfl, (hb 11).trans (hdep 4 (by decide))⟩, ?_⟩
        have e0 : bA.tmps[0]?.getD undef = .slice (some ⟨b, o, none⟩) n c := hb 0
        refine phx_run (.slice (some ⟨b, o, none⟩) n c) ?_ (Below.refl _ _) rfl
        clear hb hdep hold
        go_simp
      · intro x w1 bA hT hdep hold hb
        refine .inl ⟨⟨11, rfl, (hb 11).trans (hdep 4 (by decide))⟩, ?_⟩
        have e5 : bA.tmps[5]?.getD undef = .int .i64 (m : Int) := hb 5
        refine phx_run (.int .i64 (m : Int)) ?_ (Below.refl _ _) rfl
        clear hb hdep hold
        go_simp
      · intro x w1 bA hT hdep hold hb
        refine .inl ⟨⟨11, rfl, (hb 11).trans (hdep 4 (by decide))⟩, ?_⟩
        have e12 : bA.tmps[12]?.getD undef = .slice (some ⟨b, o, none⟩) n c := (hb 12).trans (hdep 5 (by decide))
        have e13 : bA.tmps[13]?.getD undef = .int .i64 (m : Int) := (hb 13).trans (hdep 6 (by decide))
        have zz := HZ1.out
        refine phx_run (.pointer (some ⟨b, o + m * 3, none⟩)) ?_ (Below.refl _ _) rfl
        clear hb hdep hold
        go_simp
      · intro x w1 bA hT hdep hold hb
        refine .inl ⟨⟨11, rfl, (hb 11).trans (hdep 4 (by decide))⟩, ?_⟩
        have e14 : bA.tmps[14]?.getD undef = .pointer (some ⟨b, o + m * 3, none⟩) := (hb 14).trans (hdep 7 (by decide))
        obtain ⟨cc0, cc1, cc2⟩ := HLC.out w1 hT
        refine phx_run (.agg #[.int .i64 y1, .int .i64 y2, .int .i64 y3]) ?_ (Below.refl _ _) rfl
        clear hb hdep hold
        go_simp
      · intro x w1 bA hT hdep hold hb
        refine .inl ⟨⟨11, rfl, (hb 11).trans (hdep 4 (by decide))⟩, ?_⟩
        have e3 : bA.tmps[3]?.getD undef = .pointer (some ⟨B1, 0, none⟩) := hb 3
        have qq0 := (Q.out.below hT Q.out.lt).cell 0
        have qq1 := (Q.out.below hT Q.out.lt).cell 1
        have qq2 := (Q.out.below hT Q.out.lt).cell 2
        refine phx_run (.agg #[.int .i64 t1, .int .i64 t2, .int .i64 t3]) ?_ (Below.refl _ _) rfl
        clear hb hdep hold
        go_simp
      · intro x w1 bA hT hdep hold hb
        refine .inl ⟨⟨11, rfl, (hb 11).trans (hdep 4 (by decide))⟩, ?_⟩
        have e15 : bA.tmps[15]?.getD undef = .agg #[.int .i64 y1, .int .i64 y2, .int .i64 y3] := (hb 15).trans (hdep 8 (by decide))
        have e16 : bA.tmps[16]?.getD undef = .agg #[.int .i64 t1, .int .i64 t2, .int .i64 t3] := (hb 16).trans (hdep 9 (by decide))
        refine phx_call ?_ ((before_any ((y1, y2), y3) ((t1, t2), t3) w1).mono fun e w' h => ⟨.bool true, (by rw [h.1, HKB.out]), h.2, rfl⟩)
        clear hb hdep hold
        go_simp
      · intro x w1 bA hT hdep hold hb
        refine .inl ⟨trivial, ?_⟩
        have e11 : bA.tmps[11]?.getD undef = .bool true := (hb 11).trans (hdep 4 (by decide))
        have e17 : bA.tmps[17]?.getD undef = .bool true := (hb 17).trans (hdep 10 (by decide))
        refine phx_run (.bool true) ?_ (Below.refl _ _) rfl
        clear hb hdep hold
        go_simp
      intro x w1 hT hall
      have x0e : x 0 = .int .i64 (m : Int) := hall 0 (by decide)
      have x1e : x 1 = .slice (some ⟨b, o, none⟩) n c := hall 1 (by decide)
      have x2e : x 2 = .int .i64 (n : Int) := hall 2 (by decide)
      have x3e : x 3 = .bool true := hall 3 (by decide)
      have x4e : x 4 = .bool true := hall 4 (by decide)
      have x5e : x 5 = .slice (some ⟨b, o, none⟩) n c := hall 5 (by decide)
      have x6e : x 6 = .int .i64 (m : Int) := hall 6 (by decide)
      have x7e : x 7 = .pointer (some ⟨b, o + m * 3, none⟩) := hall 7 (by decide)
      have x8e : x 8 = .agg #[.int .i64 y1, .int .i64 y2, .int .i64 y3] := hall 8 (by decide)
      have x9e : x 9 = .agg #[.int .i64 t1, .int .i64 t2, .int .i64 t3] := hall 9 (by decide)
      have x10e : x 10 = .bool true := hall 10 (by decide)
      have x11e : x 11 = .bool true := hall 11 (by decide)
      simp only [putAll, dstOf, Act.put, List.map_cons, List.map_nil, List.setIfInBounds_toArray, List.set_cons_succ, List.set_cons_zero, Nat.reduceAdd, x0e, x1e, x2e, x3e, x4e, x5e, x6e, x7e, x8e, x9e, x10e, x11e]
      clear x0e x1e x2e x3e x4e x5e x6e x7e x8e x9e x10e x11e hall
      have Q' := Lib.hid (Q.out.below hT Q.out.lt)
      have HB' := Lib.hid (HB.out.trans (hT.mono HB.out.size))
      clear Q HB HLC hT HKB
      go_wp2_with fail
      go_roundg (n - (m + 1))
      case measure => have := HZ1.out; omega
      case rel => exact ⟨m + 1, by have := HZ1.out; omega, rfl, by go_num, HP2, Q'.out, HB'.out⟩
    · have HNR := Lib.hid hrun
      have HDD := Lib.hid hD
      clear hrun hD
      go_upto_region 2 with fail
      go_cut [5, 18] from 7 to 72 (fun s5 s18 wx => s5 = .int .i64 (m : Int) ∧ s18 = .bool false ∧ Below wr.heap.size wr wx)
      case first =>
        by_cases hiL : m < l.length
        · have HZ1 := Lib.hid (show (m : Int) < (n : Int) by have := HN.out; omega)
          obtain ⟨b, o, rfl, -, -, -, -⟩ := (HS.out wr HB.out).at3 hiL
          have HLC := Lib.hid (fun W (hb : Below wr.heap.size wr W) => (HS.out W (HB.out.trans (hb.mono HB.out.size))).cells3 hiL)
          have HKB0 := Lib.hid (show decide (kb l[m].1 (t1, t2)) = false from decide_eq_false fun h => HNR.out ⟨hiL, h⟩)
          generalize l[m] = y at HLC HKB0
          obtain ⟨⟨y1, y2⟩, y3⟩ := y
          simp only at HLC HKB0
          have HKB := Lib.hid HKB0.out
          clear HKB0
          refine wp_region_phy (fun a b => Below a.heap.size a b) (fun h k => h.trans (k.mono h.size)) ((Below.refl _ _).drew) (by kernel_rfl) (by kernel_rfl) (by kernel_rfl) (by kernel_rfl) (phiT (fun i => ([some (.int .i64 (m : Int)), some (.slice (some ⟨b, o, none⟩) n c), some (.int .i64 (n : Int)), some (.bool true), some (.bool true), some (.slice (some ⟨b, o, none⟩) n c), some (.int .i64 (m : Int)), some (.pointer (some ⟨b, o + m * 3, none⟩)), some (.agg #[.int .i64 y1, .int .i64 y2, .int .i64 y3]), some (.agg #[.int .i64 t1, .int .i64 t2, .int .i64 t3]), some (.bool false), some (.bool false)] : List (Option Value)).getD i none) (fun i v w => True)) (fun i v w w' h hb => ?_) ⟨?_, ?_, ?_, ?_, ?_, ?_, ?_, ?_, ?_, ?_, ?_, ?_, trivial⟩ ?_
          · unfold phiT at h ⊢
            split
            · next u hu => rw [hu] at h; exact h
            · next hu =>
              rw [hu] at h
              exact True.intro
          · intro x w1 bA hT hdep hold hb
            refine .inl ⟨trivial, ?_⟩
            have e5 : bA.tmps[5]?.getD undef = .int .i64 (m : Int) := hb 5
            refine phx_run (.int .i64 (m : Int)) ?_ (Below.refl _ _) rfl
            clear hb hdep hold
            go_simp
          · intro x w1 bA hT hdep hold hb
            refine .inl ⟨trivial, ?_⟩
            have e0 : bA.tmps[0]?.getD undef = .slice (some ⟨b, o, none⟩) n c := hb 0
            refine phx_run (.slice (some ⟨b, o, none⟩) n c) ?_ (Below.refl _ _) rfl
            clear hb hdep hold
            go_simp
          · intro x w1 bA hT hdep hold hb
            refine .inl ⟨trivial, ?_⟩
            have e8 : bA.tmps[8]?.getD undef = .slice (some ⟨b, o, none⟩) n c := (hb 8).trans (hdep 1 (by decide))
            refine phx_run (.int .i64 (n : Int)) ?_ (Below.refl _ _) rfl
            clear hb hdep hold
            go_simp
          · intro x w1 bA hT hdep hold hb
            refine .inl ⟨trivial, ?_⟩
            have e7 : bA.tmps[7]?.getD undef = .int .i64 (m : Int) := (hb 7).trans (hdep 0 (by decide))
            have e9 : bA.tmps[9]?.getD undef = .int .i64 (n : Int) := (hb 9).trans (hdep 2 (by decide))
            have zz := HZ1.out
            refine phx_run (.bool true) ?_ (Below.refl _ _) rfl
            clear hb hdep hold
            go_simp
          · intro x w1 bA hT hdep hold hb
            refine .inl ⟨trivial, ?_⟩
            have e10 : bA.tmps[10]?.getD undef = .bool true := (hb 10).trans (hdep 3 (by decide))
            refine phx_run (.bool true) ?_ (Below.refl _ _) rfl
            clear hb hdep hold
            go_simp
          · intro x w1 bA hT hdep hold hb
            refine .inl ⟨⟨11, rfl, (hb 11).trans (hdep 4 (by decide))⟩, ?_⟩
            have e0 : bA.tmps[0]?.getD undef = .slice (some ⟨b, o, none⟩) n c := hb 0
            refine phx_run (.slice (some ⟨b, o, none⟩) n c) ?_ (Below.refl _ _) rfl
            clear hb hdep hold
            go_simp
          · intro x w1 bA hT hdep hold hb
            refine .inl ⟨⟨11, rfl, (hb 11).trans (hdep 4 (by decide))⟩, ?_⟩
            have e5 : bA.tmps[5]?.getD undef = .int .i64 (m : Int) := hb 5
            refine phx_run (.int .i64 (m : Int)) ?_ (Below.refl _ _) rfl
            clear hb hdep hold
            go_simp
          · intro x w1 bA hT hdep hold hb
            refine .inl ⟨⟨11, rfl, (hb 11).trans (hdep 4 (by decide))⟩, ?_⟩
            have e12 : bA.tmps[12]?.getD undef = .slice (some ⟨b, o, none⟩) n c := (hb 12).trans (hdep 5 (by decide))
            have e13 : bA.tmps[13]?.getD undef = .int .i64 (m : Int) := (hb 13).trans (hdep 6 (by decide))
            have zz := HZ1.out
            refine phx_run (.pointer (some ⟨b, o + m * 3, none⟩)) ?_ (Below.refl _ _) rfl
            clear hb hdep hold
            go_simp
          · intro x w1 bA hT hdep hold hb
            refine .inl ⟨⟨11, rfl, (hb 11).trans (hdep 4 (by decide))⟩, ?_⟩
            have e14 : bA.tmps[14]?.getD undef = .pointer (some ⟨b, o + m * 3, none⟩) := (hb 14).trans (hdep 7 (by decide))
            obtain ⟨cc0, cc1, cc2⟩ := HLC.out w1 hT
            refine phx_run (.agg #[.int .i64 y1, .int .i64 y2, .int .i64 y3]) ?_ (Below.refl _ _) rfl
            clear hb hdep hold
            go_simp
          · intro x w1 bA hT hdep hold hb
            refine .inl ⟨⟨11, rfl, (hb 11).trans (hdep 4 (by decide))⟩, ?_⟩
            have e3 : bA.tmps[3]?.getD undef = .pointer (some ⟨B1, 0, none⟩) := hb 3
            have qq0 := (Q.out.below hT Q.out.lt).cell 0
            have qq1 := (Q.out.below hT Q.out.lt).cell 1
            have qq2 := (Q.out.below hT Q.out.lt).cell 2
            refine phx_run (.agg #[.int .i64 t1, .int .i64 t2, .int .i64 t3]) ?_ (Below.refl _ _) rfl
            clear hb hdep hold
            go_simp
          · intro x w1 bA hT hdep hold hb
            refine .inl ⟨⟨11, rfl, (hb 11).trans (hdep 4 (by decide))⟩, ?_⟩
            have e15 : bA.tmps[15]?.getD undef = .agg #[.int .i64 y1, .int .i64 y2, .int .i64 y3] := (hb 15).trans (hdep 8 (by decide))
            have e16 : bA.tmps[16]?.getD undef = .agg #[.int .i64 t1, .int .i64 t2, .int .i64 t3] := (hb 16).trans (hdep 9 (by decide))
            refine phx_call ?_ ((before_any ((y1, y2), y3) ((t1, t2), t3) w1).mono fun e w' h => ⟨.bool false, (by rw [h.1, HKB.out]), h.2, rfl⟩)
            clear hb hdep hold
            go_simp
          · intro x w1 bA hT hdep hold hb
            refine .inl ⟨trivial, ?_⟩
            have e11 : bA.tmps[11]?.getD undef = .bool true := (hb 11).trans (hdep 4 (by decide))
            have e17 : bA.tmps[17]?.getD undef = .bool false := (hb 17).trans (hdep 10 (by decide))
            refine phx_run (.bool false) ?_ (Below.refl _ _) rfl
            clear hb hdep hold
            go_simp
          intro x w1 hT hall
          have x0e : x 0 = .int .i64 (m : Int) := hall 0 (by decide)
          have x1e : x 1 = .slice (some ⟨b, o, none⟩) n c := hall 1 (by decide)
          have x2e : x 2 = .int .i64 (n : Int) := hall 2 (by decide)
          have x3e : x 3 = .bool true := hall 3 (by decide)
          have x4e : x 4 = .bool true := hall 4 (by decide)
          have x5e : x 5 = .slice (some ⟨b, o, none⟩) n c := hall 5 (by decide)
          have x6e : x 6 = .int .i64 (m : Int) := hall 6 (by decide)
          have x7e : x 7 = .pointer (some ⟨b, o + m * 3, none⟩) := hall 7 (by decide)
          have x8e : x 8 = .agg #[.int .i64 y1, .int .i64 y2, .int .i64 y3] := hall 8 (by decide)
          have x9e : x 9 = .agg #[.int .i64 t1, .int .i64 t2, .int .i64 t3] := hall 9 (by decide)
          have x10e : x 10 = .bool false := hall 10 (by decide)
          have x11e : x 11 = .bool false := hall 11 (by decide)
          simp only [putAll, dstOf, Act.put, List.map_cons, List.map_nil, List.setIfInBounds_toArray, List.set_cons_succ, List.set_cons_zero, Nat.reduceAdd, x0e, x1e, x2e, x3e, x4e, x5e, x6e, x7e, x8e, x9e, x10e, x11e]
          clear x0e x1e x2e x3e x4e x5e x6e x7e x8e x9e x10e x11e hall
          have HT := Lib.hid hT
          clear hT
          go_wp2_with fail
          go_meet
          exact ⟨rfl, rfl, HT.out⟩
        · have HZ1 := Lib.hid (show ¬ (m : Int) < (n : Int) by have := HN.out; omega)
          refine wp_region_phy (fun a b => Below a.heap.size a b) (fun h k => h.trans (k.mono h.size)) ((Below.refl _ _).drew) (by kernel_rfl) (by kernel_rfl) (by kernel_rfl) (by kernel_rfl) (phiT (fun i => ([some (.int .i64 (m : Int)), some (.slice A n c), some (.int .i64 (n : Int)), some (.bool false), some (.bool false), some (undef), some (undef), some (undef), some (undef), some (undef), some (undef), some (.bool false)] : List (Option Value)).getD i none) (fun i v w => True)) (fun i v w w' h hb => ?_) ⟨?_, ?_, ?_, ?_, ?_, ?_, ?_, ?_, ?_, ?_, ?_, ?_, trivial⟩ ?_
          · unfold phiT at h ⊢
            split
            · next u hu => rw [hu] at h; exact h
            · next hu =>
              rw [hu] at h
              exact True.intro
          · intro x w1 bA hT hdep hold hb
            refine .inl ⟨trivial, ?_⟩
            have e5 : bA.tmps[5]?.getD undef = .int .i64 (m : Int) := hb 5
            refine phx_run (.int .i64 (m : Int)) ?_ (Below.refl _ _) rfl
            clear hb hdep hold
            go_simp
          · intro x w1 bA hT hdep hold hb
            refine .inl ⟨trivial, ?_⟩
            have e0 : bA.tmps[0]?.getD undef = .slice A n c := hb 0
            refine phx_run (.slice A n c) ?_ (Below.refl _ _) rfl
            clear hb hdep hold
            go_simp
          · intro x w1 bA hT hdep hold hb
            refine .inl ⟨trivial, ?_⟩
            have e8 : bA.tmps[8]?.getD undef = .slice A n c := (hb 8).trans (hdep 1 (by decide))
            refine phx_run (.int .i64 (n : Int)) ?_ (Below.refl _ _) rfl
            clear hb hdep hold
            go_simp
          · intro x w1 bA hT hdep hold hb
            refine .inl ⟨trivial, ?_⟩
            have e7 : bA.tmps[7]?.getD undef = .int .i64 (m : Int) := (hb 7).trans (hdep 0 (by decide))
            have e9 : bA.tmps[9]?.getD undef = .int .i64 (n : Int) := (hb 9).trans (hdep 2 (by decide))
            have zz := HZ1.out
            refine phx_run (.bool false) ?_ (Below.refl _ _) rfl
            clear hb hdep hold
            go_simp
          · intro x w1 bA hT hdep hold hb
            refine .inl ⟨trivial, ?_⟩
            have e10 : bA.tmps[10]?.getD undef = .bool false := (hb 10).trans (hdep 3 (by decide))
            refine phx_run (.bool false) ?_ (Below.refl _ _) rfl
            clear hb hdep hold
            go_simp
          · intro x w1 bA hT hdep hold hb
            exact .inr ⟨⟨11, rfl, .inl ((hb 11).trans (hdep 4 (by decide)))⟩, rfl⟩
          · intro x w1 bA hT hdep hold hb
            exact .inr ⟨⟨11, rfl, .inl ((hb 11).trans (hdep 4 (by decide)))⟩, rfl⟩
          · intro x w1 bA hT hdep hold hb
            exact .inr ⟨⟨11, rfl, .inl ((hb 11).trans (hdep 4 (by decide)))⟩, rfl⟩
          · intro x w1 bA hT hdep hold hb
            exact .inr ⟨⟨11, rfl, .inl ((hb 11).trans (hdep 4 (by decide)))⟩, rfl⟩
          · intro x w1 bA hT hdep hold hb
            exact .inr ⟨⟨11, rfl, .inl ((hb 11).trans (hdep 4 (by decide)))⟩, rfl⟩
          · intro x w1 bA hT hdep hold hb
            exact .inr ⟨⟨11, rfl, .inl ((hb 11).trans (hdep 4 (by decide)))⟩, rfl⟩
          · intro x w1 bA hT hdep hold hb
            refine .inl ⟨trivial, ?_⟩
            have e11 : bA.tmps[11]?.getD undef = .bool false := (hb 11).trans (hdep 4 (by decide))
            refine phx_run (.bool false) ?_ (Below.refl _ _) rfl
            clear hb hdep hold
            go_simp
          intro x w1 hT hall
          have x0e : x 0 = .int .i64 (m : Int) := hall 0 (by decide)
          have x1e : x 1 = .slice A n c := hall 1 (by decide)
          have x2e : x 2 = .int .i64 (n : Int) := hall 2 (by decide)
          have x3e : x 3 = .bool false := hall 3 (by decide)
          have x4e : x 4 = .bool false := hall 4 (by decide)
          have x5e : x 5 = undef := hall 5 (by decide)
          have x6e : x 6 = undef := hall 6 (by decide)
          have x7e : x 7 = undef := hall 7 (by decide)
          have x8e : x 8 = undef := hall 8 (by decide)
          have x9e : x 9 = undef := hall 9 (by decide)
          have x10e : x 10 = undef := hall 10 (by decide)
          have x11e : x 11 = .bool false := hall 11 (by decide)
          simp only [putAll, dstOf, Act.put, List.map_cons, List.map_nil, List.setIfInBounds_toArray, List.set_cons_succ, List.set_cons_zero, Nat.reduceAdd, x0e, x1e, x2e, x3e, x4e, x5e, x6e, x7e, x8e, x9e, x10e, x11e]
          clear x0e x1e x2e x3e x4e x5e x6e x7e x8e x9e x10e x11e hall
          have HT := Lib.hid hT
          clear hT
          go_wp2_with fail
          go_meet
          exact ⟨rfl, rfl, HT.out⟩
      case rest =>
        obtain ⟨rfl, rfl, hbw⟩ := hcut
        obtain ⟨w5, hw5⟩ : ∃ W, W = wc := ⟨_, rfl⟩
        rw [← hw5] at hbw ⊢
        have Q5 := Lib.hid (Q.out.below hbw Q.out.lt)
        have HB5 := Lib.hid (HB.out.trans (hbw.mono HB.out.size))
        clear hbw hw5 Q HB
        have Q := Lib.hid Q5.out
        clear Q5
        go_upto_region 4 with fail
        go_cut [5, 44] from 7 to 72 (fun s5 s44 wx => s5 = .int .i64 (m : Int) ∧ s44 = .bool D ∧ Below w5.heap.size w5 wx)
        case first =>
          by_cases hiL : m < l.length
          · have HZ1 := Lib.hid (show (m : Int) < (n : Int) by have := HN.out; omega)
            obtain ⟨b, o, rfl, -, -, -, -⟩ := (HS.out w5 HB5.out).at3 hiL
            have HLC := Lib.hid (fun W (hb : Below w5.heap.size w5 W) => (HS.out W (HB5.out.trans (hb.mono HB5.out.size))).cells3 hiL)
            have hDy : D = decide (l[m].1 = (t1, t2)) := by rw [HDD.out]; congr 1; exact propext ⟨fun ⟨_, h⟩ => h, fun h => ⟨hiL, h⟩⟩
            have HDy := Lib.hid hDy
            clear hDy
            generalize l[m] = y at HLC HDy
            obtain ⟨⟨y1, y2⟩, y3⟩ := y
            simp only [Prod.mk.injEq] at HLC HDy
            by_cases e1 : y1 = t1
            · have HE1 := Lib.hid (show (y1 == t1) = true from beq_iff_eq.2 e1)
              by_cases e2 : y2 = t2
              · have HE2 := Lib.hid (show (y2 == t2) = true from beq_iff_eq.2 e2)
                have HDT := Lib.hid (show D = true from by rw [HDy.out]; exact decide_eq_true ⟨e1, e2⟩)
                clear e1 e2
                refine wp_region_phy (fun a b => Below a.heap.size a b) (fun h k => h.trans (k.mono h.size)) ((Below.refl _ _).drew) (by kernel_rfl) (by kernel_rfl) (by kernel_rfl) (by kernel_rfl) (phiT (fun i => ([some (.int .i64 (m : Int)), some (.slice (some ⟨b, o, none⟩) n c), some (.int .i64 (n : Int)), some (.bool true), some (.bool true), some (.slice (some ⟨b, o, none⟩) n c), some (.int .i64 (m : Int)), some (.pointer (some ⟨b, o + m * 3, none⟩)), some (.pointer (some ⟨b, o + m * 3, none⟩)), some (.int .i64 y1), some (.pointer (some ⟨B1, 0, none⟩)), some (.int .i64 t1), some (.bool true), some (.bool true), some (.bool true), some (.slice (some ⟨b, o, none⟩) n c), some (.int .i64 (m : Int)), some (.pointer (some ⟨b, o + m * 3, none⟩)), some (.pointer (some ⟨b, o + m * 3 + 1, none⟩)), some (.int .i64 y2), some (.pointer (some ⟨B1, 1, none⟩)), some (.int .i64 t2), some (.bool true), some (.bool true)] : List (Option Value)).getD i none) (fun i v w => True)) (fun i v w w' h hb => ?_) ⟨?_, ?_, ?_, ?_, ?_, ?_, ?_, ?_, ?_, ?_, ?_, ?_, ?_, ?_, ?_, ?_, ?_, ?_, ?_, ?_, ?_, ?_, ?_, ?_, trivial⟩ ?_
                · unfold phiT at h ⊢
                  split
                  · next u hu => rw [hu] at h; exact h
                  · next hu =>
                    rw [hu] at h
                    exact True.intro
                · intro x w1 bA hT hdep hold hb
                  refine .inl ⟨trivial, ?_⟩
                  have e5 : bA.tmps[5]?.getD undef = .int .i64 (m : Int) := hb 5
                  refine phx_run (.int .i64 (m : Int)) ?_ (Below.refl _ _) rfl
                  clear hb hdep hold
                  go_simp
                · intro x w1 bA hT hdep hold hb
                  refine .inl ⟨trivial, ?_⟩
                  have e0 : bA.tmps[0]?.getD undef = .slice (some ⟨b, o, none⟩) n c := hb 0
                  refine phx_run (.slice (some ⟨b, o, none⟩) n c) ?_ (Below.refl _ _) rfl
                  clear hb hdep hold
                  go_simp
                · intro x w1 bA hT hdep hold hb
                  refine .inl ⟨trivial, ?_⟩
                  have e22 : bA.tmps[22]?.getD undef = .slice (some ⟨b, o, none⟩) n c := (hb 22).trans (hdep 1 (by decide))
                  refine phx_run (.int .i64 (n : Int)) ?_ (Below.refl _ _) rfl
                  clear hb hdep hold
                  go_simp
                · intro x w1 bA hT hdep hold hb
                  refine .inl ⟨trivial, ?_⟩
                  have e21 : bA.tmps[21]?.getD undef = .int .i64 (m : Int) := (hb 21).trans (hdep 0 (by decide))
                  have e23 : bA.tmps[23]?.getD undef = .int .i64 (n : Int) := (hb 23).trans (hdep 2 (by decide))
                  have zz := HZ1.out
                  refine phx_run (.bool true) ?_ (Below.refl _ _) rfl
                  clear hb hdep hold
                  go_simp
                · intro x w1 bA hT hdep hold hb
                  refine .inl ⟨trivial, ?_⟩
                  have e24 : bA.tmps[24]?.getD undef = .bool true := (hb 24).trans (hdep 3 (by decide))
                  refine phx_run (.bool true) ?_ (Below.refl _ _) rfl
                  clear hb hdep hold
                  go_simp
                · intro x w1 bA hT hdep hold hb
                  refine .inl ⟨⟨25, rfl, (hb 25).trans (hdep 4 (by decide))⟩, ?_⟩
                  have e0 : bA.tmps[0]?.getD undef = .slice (some ⟨b, o, none⟩) n c := hb 0
                  refine phx_run (.slice (some ⟨b, o, none⟩) n c) ?_ (Below.refl _ _) rfl
                  clear hb hdep hold
                  go_simp
                · intro x w1 bA hT hdep hold hb
                  refine .inl ⟨⟨25, rfl, (hb 25).trans (hdep 4 (by decide))⟩, ?_⟩
                  have e5 : bA.tmps[5]?.getD undef = .int .i64 (m : Int) := hb 5
                  refine phx_run (.int .i64 (m : Int)) ?_ (Below.refl _ _) rfl
                  clear hb hdep hold
                  go_simp
                · intro x w1 bA hT hdep hold hb
                  refine .inl ⟨⟨25, rfl, (hb 25).trans (hdep 4 (by decide))⟩, ?_⟩
                  have e26 : bA.tmps[26]?.getD undef = .slice (some ⟨b, o, none⟩) n c := (hb 26).trans (hdep 5 (by decide))
                  have e27 : bA.tmps[27]?.getD undef = .int .i64 (m : Int) := (hb 27).trans (hdep 6 (by decide))
                  have zz := HZ1.out
                  refine phx_run (.pointer (some ⟨b, o + m * 3, none⟩)) ?_ (Below.refl _ _) rfl
                  clear hb hdep hold
                  go_simp
                · intro x w1 bA hT hdep hold hb
                  refine .inl ⟨⟨25, rfl, (hb 25).trans (hdep 4 (by decide))⟩, ?_⟩
                  have e28 : bA.tmps[28]?.getD undef = .pointer (some ⟨b, o + m * 3, none⟩) := (hb 28).trans (hdep 7 (by decide))
                  refine phx_run (.pointer (some ⟨b, o + m * 3, none⟩)) ?_ (Below.refl _ _) rfl
                  clear hb hdep hold
                  go_simp
                · intro x w1 bA hT hdep hold hb
                  refine .inl ⟨⟨25, rfl, (hb 25).trans (hdep 4 (by decide))⟩, ?_⟩
                  have e29 : bA.tmps[29]?.getD undef = .pointer (some ⟨b, o + m * 3, none⟩) := (hb 29).trans (hdep 8 (by decide))
                  obtain ⟨cc0, cc1, cc2⟩ := HLC.out w1 hT
                  refine phx_run (.int .i64 y1) ?_ (Below.refl _ _) rfl
                  clear hb hdep hold
                  go_simp
                · intro x w1 bA hT hdep hold hb
                  refine .inl ⟨⟨25, rfl, (hb 25).trans (hdep 4 (by decide))⟩, ?_⟩
                  have e3 : bA.tmps[3]?.getD undef = .pointer (some ⟨B1, 0, none⟩) := hb 3
                  refine phx_run (.pointer (some ⟨B1, 0, none⟩)) ?_ (Below.refl _ _) rfl
                  clear hb hdep hold
                  go_simp
                · intro x w1 bA hT hdep hold hb
                  refine .inl ⟨⟨25, rfl, (hb 25).trans (hdep 4 (by decide))⟩, ?_⟩
                  have e31 : bA.tmps[31]?.getD undef = .pointer (some ⟨B1, 0, none⟩) := (hb 31).trans (hdep 10 (by decide))
                  have qq0 := (Q.out.below hT Q.out.lt).cell 0
                  have qq1 := (Q.out.below hT Q.out.lt).cell 1
                  have qq2 := (Q.out.below hT Q.out.lt).cell 2
                  refine phx_run (.int .i64 t1) ?_ (Below.refl _ _) rfl
                  clear hb hdep hold
                  go_simp
                · intro x w1 bA hT hdep hold hb
                  refine .inl ⟨⟨25, rfl, (hb 25).trans (hdep 4 (by decide))⟩, ?_⟩
                  have e30 : bA.tmps[30]?.getD undef = .int .i64 y1 := (hb 30).trans (hdep 9 (by decide))
                  have e32 : bA.tmps[32]?.getD undef = .int .i64 t1 := (hb 32).trans (hdep 11 (by decide))
                  have zz := HE1.out
                  refine phx_run (.bool true) ?_ (Below.refl _ _) rfl
                  clear hb hdep hold
                  go_simp
                · intro x w1 bA hT hdep hold hb
                  refine .inl ⟨trivial, ?_⟩
                  have e25 : bA.tmps[25]?.getD undef = .bool true := (hb 25).trans (hdep 4 (by decide))
                  have e33 : bA.tmps[33]?.getD undef = .bool true := (hb 33).trans (hdep 12 (by decide))
                  refine phx_run (.bool true) ?_ (Below.refl _ _) rfl
                  clear hb hdep hold
                  go_simp
                · intro x w1 bA hT hdep hold hb
                  refine .inl ⟨trivial, ?_⟩
                  have e34 : bA.tmps[34]?.getD undef = .bool true := (hb 34).trans (hdep 13 (by decide))
                  refine phx_run (.bool true) ?_ (Below.refl _ _) rfl
                  clear hb hdep hold
                  go_simp
                · intro x w1 bA hT hdep hold hb
                  refine .inl ⟨⟨35, rfl, (hb 35).trans (hdep 14 (by decide))⟩, ?_⟩
                  have e0 : bA.tmps[0]?.getD undef = .slice (some ⟨b, o, none⟩) n c := hb 0
                  refine phx_run (.slice (some ⟨b, o, none⟩) n c) ?_ (Below.refl _ _) rfl
                  clear hb hdep hold
                  go_simp
                · intro x w1 bA hT hdep hold hb
                  refine .inl ⟨⟨35, rfl, (hb 35).trans (hdep 14 (by decide))⟩, ?_⟩
                  have e5 : bA.tmps[5]?.getD undef = .int .i64 (m : Int) := hb 5
                  refine phx_run (.int .i64 (m : Int)) ?_ (Below.refl _ _) rfl
                  clear hb hdep hold
                  go_simp
                · intro x w1 bA hT hdep hold hb
                  refine .inl ⟨⟨35, rfl, (hb 35).trans (hdep 14 (by decide))⟩, ?_⟩
                  have e36 : bA.tmps[36]?.getD undef = .slice (some ⟨b, o, none⟩) n c := (hb 36).trans (hdep 15 (by decide))
                  have e37 : bA.tmps[37]?.getD undef = .int .i64 (m : Int) := (hb 37).trans (hdep 16 (by decide))
                  have zz := HZ1.out
                  refine phx_run (.pointer (some ⟨b, o + m * 3, none⟩)) ?_ (Below.refl _ _) rfl
                  clear hb hdep hold
                  go_simp
                · intro x w1 bA hT hdep hold hb
                  refine .inl ⟨⟨35, rfl, (hb 35).trans (hdep 14 (by decide))⟩, ?_⟩
                  have e38 : bA.tmps[38]?.getD undef = .pointer (some ⟨b, o + m * 3, none⟩) := (hb 38).trans (hdep 17 (by decide))
                  refine phx_run (.pointer (some ⟨b, o + m * 3 + 1, none⟩)) ?_ (Below.refl _ _) rfl
                  clear hb hdep hold
                  go_simp
                · intro x w1 bA hT hdep hold hb
                  refine .inl ⟨⟨35, rfl, (hb 35).trans (hdep 14 (by decide))⟩, ?_⟩
                  have e39 : bA.tmps[39]?.getD undef = .pointer (some ⟨b, o + m * 3 + 1, none⟩) := (hb 39).trans (hdep 18 (by decide))
                  obtain ⟨cc0, cc1, cc2⟩ := HLC.out w1 hT
                  refine phx_run (.int .i64 y2) ?_ (Below.refl _ _) rfl
                  clear hb hdep hold
                  go_simp
                · intro x w1 bA hT hdep hold hb
                  refine .inl ⟨⟨35, rfl, (hb 35).trans (hdep 14 (by decide))⟩, ?_⟩
                  have e3 : bA.tmps[3]?.getD undef = .pointer (some ⟨B1, 0, none⟩) := hb 3
                  refine phx_run (.pointer (some ⟨B1, 1, none⟩)) ?_ (Below.refl _ _) rfl
                  clear hb hdep hold
                  go_simp
                · intro x w1 bA hT hdep hold hb
                  refine .inl ⟨⟨35, rfl, (hb 35).trans (hdep 14 (by decide))⟩, ?_⟩
                  have e41 : bA.tmps[41]?.getD undef = .pointer (some ⟨B1, 1, none⟩) := (hb 41).trans (hdep 20 (by decide))
                  have qq0 := (Q.out.below hT Q.out.lt).cell 0
                  have qq1 := (Q.out.below hT Q.out.lt).cell 1
                  have qq2 := (Q.out.below hT Q.out.lt).cell 2
                  refine phx_run (.int .i64 t2) ?_ (Below.refl _ _) rfl
                  clear hb hdep hold
                  go_simp
                · intro x w1 bA hT hdep hold hb
                  refine .inl ⟨⟨35, rfl, (hb 35).trans (hdep 14 (by decide))⟩, ?_⟩
                  have e40 : bA.tmps[40]?.getD undef = .int .i64 y2 := (hb 40).trans (hdep 19 (by decide))
                  have e42 : bA.tmps[42]?.getD undef = .int .i64 t2 := (hb 42).trans (hdep 21 (by decide))
                  have zz := HE2.out
                  refine phx_run (.bool true) ?_ (Below.refl _ _) rfl
                  clear hb hdep hold
                  go_simp
                · intro x w1 bA hT hdep hold hb
                  refine .inl ⟨trivial, ?_⟩
                  have e35 : bA.tmps[35]?.getD undef = .bool true := (hb 35).trans (hdep 14 (by decide))
                  have e43 : bA.tmps[43]?.getD undef = .bool true := (hb 43).trans (hdep 22 (by decide))
                  refine phx_run (.bool true) ?_ (Below.refl _ _) rfl
                  clear hb hdep hold
                  go_simp
                intro x w1 hT hall
                have x0e : x 0 = .int .i64 (m : Int) := hall 0 (by decide)
                have x1e : x 1 = .slice (some ⟨b, o, none⟩) n c := hall 1 (by decide)
                have x2e : x 2 = .int .i64 (n : Int) := hall 2 (by decide)
                have x3e : x 3 = .bool true := hall 3 (by decide)
                have x4e : x 4 = .bool true := hall 4 (by decide)
                have x5e : x 5 = .slice (some ⟨b, o, none⟩) n c := hall 5 (by decide)
                have x6e : x 6 = .int .i64 (m : Int) := hall 6 (by decide)
                have x7e : x 7 = .pointer (some ⟨b, o + m * 3, none⟩) := hall 7 (by decide)
                have x8e : x 8 = .pointer (some ⟨b, o + m * 3, none⟩) := hall 8 (by decide)
                have x9e : x 9 = .int .i64 y1 := hall 9 (by decide)
                have x10e : x 10 = .pointer (some ⟨B1, 0, none⟩) := hall 10 (by decide)
                have x11e : x 11 = .int .i64 t1 := hall 11 (by decide)
                have x12e : x 12 = .bool true := hall 12 (by decide)
                have x13e : x 13 = .bool true := hall 13 (by decide)
                have x14e : x 14 = .bool true := hall 14 (by decide)
                have x15e : x 15 = .slice (some ⟨b, o, none⟩) n c := hall 15 (by decide)
                have x16e : x 16 = .int .i64 (m : Int) := hall 16 (by decide)
                have x17e : x 17 = .pointer (some ⟨b, o + m * 3, none⟩) := hall 17 (by decide)
                have x18e : x 18 = .pointer (some ⟨b, o + m * 3 + 1, none⟩) := hall 18 (by decide)
                have x19e : x 19 = .int .i64 y2 := hall 19 (by decide)
                have x20e : x 20 = .pointer (some ⟨B1, 1, none⟩) := hall 20 (by decide)
                have x21e : x 21 = .int .i64 t2 := hall 21 (by decide)
                have x22e : x 22 = .bool true := hall 22 (by decide)
                have x23e : x 23 = .bool true := hall 23 (by decide)
                simp only [putAll, dstOf, Act.put, List.map_cons, List.map_nil, List.setIfInBounds_toArray, List.set_cons_succ, List.set_cons_zero, Nat.reduceAdd, x0e, x1e, x2e, x3e, x4e, x5e, x6e, x7e, x8e, x9e, x10e, x11e, x12e, x13e, x14e, x15e, x16e, x17e, x18e, x19e, x20e, x21e, x22e, x23e]
                clear x0e x1e x2e x3e x4e x5e x6e x7e x8e x9e x10e x11e x12e x13e x14e x15e x16e x17e x18e x19e x20e x21e x22e x23e hall
                have HT := Lib.hid hT
                clear hT
                go_wp2_with fail
                go_meet
                exact ⟨rfl, by rw [HDT.out], HT.out⟩
              · have HE2 := Lib.hid (show (y2 == t2) = false from beq_eq_false_iff_ne.2 e2)
                have HDT := Lib.hid (show D = false from by rw [HDy.out]; exact decide_eq_false (fun h => e2 h.2))
                clear e1 e2
                refine wp_region_phy (fun a b => Below a.heap.size a b) (fun h k => h.trans (k.mono h.size)) ((Below.refl _ _).drew) (by kernel_rfl) (by kernel_rfl) (by kernel_rfl) (by kernel_rfl) (phiT (fun i => ([some (.int .i64 (m : Int)), some (.slice (some ⟨b, o, none⟩) n c), some (.int .i64 (n : Int)), some (.bool true), some (.bool true), some (.slice (some ⟨b, o, none⟩) n c), some (.int .i64 (m : Int)), some (.pointer (some ⟨b, o + m * 3, none⟩)), some (.pointer (some ⟨b, o + m * 3, none⟩)), some (.int .i64 y1), some (.pointer (some ⟨B1, 0, none⟩)), some (.int .i64 t1), some (.bool true), some (.bool true), some (.bool true), some (.slice (some ⟨b, o, none⟩) n c), some (.int .i64 (m : Int)), some (.pointer (some ⟨b, o + m * 3, none⟩)), some (.pointer (some ⟨b, o + m * 3 + 1, none⟩)), some (.int .i64 y2), some (.pointer (some ⟨B1, 1, none⟩)), some (.int .i64 t2), some (.bool false), some (.bool false)] : List (Option Value)).getD i none) (fun i v w => True)) (fun i v w w' h hb => ?_) ⟨?_, ?_, ?_, ?_, ?_, ?_, ?_, ?_, ?_, ?_, ?_, ?_, ?_, ?_, ?_, ?_, ?_, ?_, ?_, ?_, ?_, ?_, ?_, ?_, trivial⟩ ?_
                · unfold phiT at h ⊢
                  split
                  · next u hu => rw [hu] at h; exact h
                  · next hu =>
                    rw [hu] at h
                    exact True.intro
                · intro x w1 bA hT hdep hold hb
                  refine .inl ⟨trivial, ?_⟩
                  have e5 : bA.tmps[5]?.getD undef = .int .i64 (m : Int) := hb 5
                  refine phx_run (.int .i64 (m : Int)) ?_ (Below.refl _ _) rfl
                  clear hb hdep hold
                  go_simp
                · intro x w1 bA hT hdep hold hb
                  refine .inl ⟨trivial, ?_⟩
                  have e0 : bA.tmps[0]?.getD undef = .slice (some ⟨b, o, none⟩) n c := hb 0
                  refine phx_run (.slice (some ⟨b, o, none⟩) n c) ?_ (Below.refl _ _) rfl
                  clear hb hdep hold
                  go_simp
                · intro x w1 bA hT hdep hold hb
                  refine .inl ⟨trivial, ?_⟩
                  have e22 : bA.tmps[22]?.getD undef = .slice (some ⟨b, o, none⟩) n c := (hb 22).trans (hdep 1 (by decide))
                  refine phx_run (.int .i64 (n : Int)) ?_ (Below.refl _ _) rfl
                  clear hb hdep hold
                  go_simp
                · intro x w1 bA hT hdep hold hb
                  refine .inl ⟨trivial, ?_⟩
                  have e21 : bA.tmps[21]?.getD undef = .int .i64 (m : Int) := (hb 21).trans (hdep 0 (by decide))
                  have e23 : bA.tmps[23]?.getD undef = .int .i64 (n : Int) := (hb 23).trans (hdep 2 (by decide))
                  have zz := HZ1.out
                  refine phx_run (.bool true) ?_ (Below.refl _ _) rfl
                  clear hb hdep hold
                  go_simp
                · intro x w1 bA hT hdep hold hb
                  refine .inl ⟨trivial, ?_⟩
                  have e24 : bA.tmps[24]?.getD undef = .bool true := (hb 24).trans (hdep 3 (by decide))
                  refine phx_run (.bool true) ?_ (Below.refl _ _) rfl
                  clear hb hdep hold
                  go_simp
                · intro x w1 bA hT hdep hold hb
                  refine .inl ⟨⟨25, rfl, (hb 25).trans (hdep 4 (by decide))⟩, ?_⟩
                  have e0 : bA.tmps[0]?.getD undef = .slice (some ⟨b, o, none⟩) n c := hb 0
                  refine phx_run (.slice (some ⟨b, o, none⟩) n c) ?_ (Below.refl _ _) rfl
                  clear hb hdep hold
                  go_simp
                · intro x w1 bA hT hdep hold hb
                  refine .inl ⟨⟨25, rfl, (hb 25).trans (hdep 4 (by decide))⟩, ?_⟩
                  have e5 : bA.tmps[5]?.getD undef = .int .i64 (m : Int) := hb 5
                  refine phx_run (.int .i64 (m : Int)) ?_ (Below.refl _ _) rfl
                  clear hb hdep hold
                  go_simp
                · intro x w1 bA hT hdep hold hb
                  refine .inl ⟨⟨25, rfl, (hb 25).trans (hdep 4 (by decide))⟩, ?_⟩
                  have e26 : bA.tmps[26]?.getD undef = .slice (some ⟨b, o, none⟩) n c := (hb 26).trans (hdep 5 (by decide))
                  have e27 : bA.tmps[27]?.getD undef = .int .i64 (m : Int) := (hb 27).trans (hdep 6 (by decide))
                  have zz := HZ1.out
                  refine phx_run (.pointer (some ⟨b, o + m * 3, none⟩)) ?_ (Below.refl _ _) rfl
                  clear hb hdep hold
                  go_simp
                · intro x w1 bA hT hdep hold hb
                  refine .inl ⟨⟨25, rfl, (hb 25).trans (hdep 4 (by decide))⟩, ?_⟩
                  have e28 : bA.tmps[28]?.getD undef = .pointer (some ⟨b, o + m * 3, none⟩) := (hb 28).trans (hdep 7 (by decide))
                  refine phx_run (.pointer (some ⟨b, o + m * 3, none⟩)) ?_ (Below.refl _ _) rfl
                  clear hb hdep hold
                  go_simp
                · intro x w1 bA hT hdep hold hb
                  refine .inl ⟨⟨25, rfl, (hb 25).trans (hdep 4 (by decide))⟩, ?_⟩
                  have e29 : bA.tmps[29]?.getD undef = .pointer (some ⟨b, o + m * 3, none⟩) := (hb 29).trans (hdep 8 (by decide))
                  obtain ⟨cc0, cc1, cc2⟩ := HLC.out w1 hT
                  refine phx_run (.int .i64 y1) ?_ (Below.refl _ _) rfl
                  clear hb hdep hold
                  go_simp
                · intro x w1 bA hT hdep hold hb
                  refine .inl ⟨⟨25, rfl, (hb 25).trans (hdep 4 (by decide))⟩, ?_⟩
                  have e3 : bA.tmps[3]?.getD undef = .pointer (some ⟨B1, 0, none⟩) := hb 3
                  refine phx_run (.pointer (some ⟨B1, 0, none⟩)) ?_ (Below.refl _ _) rfl
                  clear hb hdep hold
                  go_simp
                · intro x w1 bA hT hdep hold hb
                  refine .inl ⟨⟨25, rfl, (hb 25).trans (hdep 4 (by decide))⟩, ?_⟩
                  have e31 : bA.tmps[31]?.getD undef = .pointer (some ⟨B1, 0, none⟩) := (hb 31).trans (hdep 10 (by decide))
                  have qq0 := (Q.out.below hT Q.out.lt).cell 0
                  have qq1 := (Q.out.below hT Q.out.lt).cell 1
                  have qq2 := (Q.out.below hT Q.out.lt).cell 2
                  refine phx_run (.int .i64 t1) ?_ (Below.refl _ _) rfl
                  clear hb hdep hold
                  go_simp
                · intro x w1 bA hT hdep hold hb
                  refine .inl ⟨⟨25, rfl, (hb 25).trans (hdep 4 (by decide))⟩, ?_⟩
                  have e30 : bA.tmps[30]?.getD undef = .int .i64 y1 := (hb 30).trans (hdep 9 (by decide))
                  have e32 : bA.tmps[32]?.getD undef = .int .i64 t1 := (hb 32).trans (hdep 11 (by decide))
                  have zz := HE1.out
                  refine phx_run (.bool true) ?_ (Below.refl _ _) rfl
                  clear hb hdep hold
                  go_simp
                · intro x w1 bA hT hdep hold hb
                  refine .inl ⟨trivial, ?_⟩
                  have e25 : bA.tmps[25]?.getD undef = .bool true := (hb 25).trans (hdep 4 (by decide))
                  have e33 : bA.tmps[33]?.getD undef = .bool true := (hb 33).trans (hdep 12 (by decide))
                  refine phx_run (.bool true) ?_ (Below.refl _ _) rfl
                  clear hb hdep hold
                  go_simp
                · intro x w1 bA hT hdep hold hb
                  refine .inl ⟨trivial, ?_⟩
                  have e34 : bA.tmps[34]?.getD undef = .bool true := (hb 34).trans (hdep 13 (by decide))
                  refine phx_run (.bool true) ?_ (Below.refl _ _) rfl
                  clear hb hdep hold
                  go_simp
                · intro x w1 bA hT hdep hold hb
                  refine .inl ⟨⟨35, rfl, (hb 35).trans (hdep 14 (by decide))⟩, ?_⟩
                  have e0 : bA.tmps[0]?.getD undef = .slice (some ⟨b, o, none⟩) n c := hb 0
                  refine phx_run (.slice (some ⟨b, o, none⟩) n c) ?_ (Below.refl _ _) rfl
                  clear hb hdep hold
                  go_simp
                · intro x w1 bA hT hdep hold hb
                  refine .inl ⟨⟨35, rfl, (hb 35).trans (hdep 14 (by decide))⟩, ?_⟩
                  have e5 : bA.tmps[5]?.getD undef = .int .i64 (m : Int) := hb 5
                  refine phx_run (.int .i64 (m : Int)) ?_ (Below.refl _ _) rfl
                  clear hb hdep hold
                  go_simp
                · intro x w1 bA hT hdep hold hb
                  refine .inl ⟨⟨35, rfl, (hb 35).trans (hdep 14 (by decide))⟩, ?_⟩
                  have e36 : bA.tmps[36]?.getD undef = .slice (some ⟨b, o, none⟩) n c := (hb 36).trans (hdep 15 (by decide))
                  have e37 : bA.tmps[37]?.getD undef = .int .i64 (m : Int) := (hb 37).trans (hdep 16 (by decide))
                  have zz := HZ1.out
                  refine phx_run (.pointer (some ⟨b, o + m * 3, none⟩)) ?_ (Below.refl _ _) rfl
                  clear hb hdep hold
                  go_simp
                · intro x w1 bA hT hdep hold hb
                  refine .inl ⟨⟨35, rfl, (hb 35).trans (hdep 14 (by decide))⟩, ?_⟩
                  have e38 : bA.tmps[38]?.getD undef = .pointer (some ⟨b, o + m * 3, none⟩) := (hb 38).trans (hdep 17 (by decide))
                  refine phx_run (.pointer (some ⟨b, o + m * 3 + 1, none⟩)) ?_ (Below.refl _ _) rfl
                  clear hb hdep hold
                  go_simp
                · intro x w1 bA hT hdep hold hb
                  refine .inl ⟨⟨35, rfl, (hb 35).trans (hdep 14 (by decide))⟩, ?_⟩
                  have e39 : bA.tmps[39]?.getD undef = .pointer (some ⟨b, o + m * 3 + 1, none⟩) := (hb 39).trans (hdep 18 (by decide))
                  obtain ⟨cc0, cc1, cc2⟩ := HLC.out w1 hT
                  refine phx_run (.int .i64 y2) ?_ (Below.refl _ _) rfl
                  clear hb hdep hold
                  go_simp
                · intro x w1 bA hT hdep hold hb
                  refine .inl ⟨⟨35, rfl, (hb 35).trans (hdep 14 (by decide))⟩, ?_⟩
                  have e3 : bA.tmps[3]?.getD undef = .pointer (some ⟨B1, 0, none⟩) := hb 3
                  refine phx_run (.pointer (some ⟨B1, 1, none⟩)) ?_ (Below.refl _ _) rfl
                  clear hb hdep hold
                  go_simp
                · intro x w1 bA hT hdep hold hb
                  refine .inl ⟨⟨35, rfl, (hb 35).trans (hdep 14 (by decide))⟩, ?_⟩
                  have e41 : bA.tmps[41]?.getD undef = .pointer (some ⟨B1, 1, none⟩) := (hb 41).trans (hdep 20 (by decide))
                  have qq0 := (Q.out.below hT Q.out.lt).cell 0
                  have qq1 := (Q.out.below hT Q.out.lt).cell 1
                  have qq2 := (Q.out.below hT Q.out.lt).cell 2
                  refine phx_run (.int .i64 t2) ?_ (Below.refl _ _) rfl
                  clear hb hdep hold
                  go_simp
                · intro x w1 bA hT hdep hold hb
                  refine .inl ⟨⟨35, rfl, (hb 35).trans (hdep 14 (by decide))⟩, ?_⟩
                  have e40 : bA.tmps[40]?.getD undef = .int .i64 y2 := (hb 40).trans (hdep 19 (by decide))
                  have e42 : bA.tmps[42]?.getD undef = .int .i64 t2 := (hb 42).trans (hdep 21 (by decide))
                  have zz := HE2.out
                  refine phx_run (.bool false) ?_ (Below.refl _ _) rfl
                  clear hb hdep hold
                  go_simp
                · intro x w1 bA hT hdep hold hb
                  refine .inl ⟨trivial, ?_⟩
                  have e35 : bA.tmps[35]?.getD undef = .bool true := (hb 35).trans (hdep 14 (by decide))
                  have e43 : bA.tmps[43]?.getD undef = .bool false := (hb 43).trans (hdep 22 (by decide))
                  refine phx_run (.bool false) ?_ (Below.refl _ _) rfl
                  clear hb hdep hold
                  go_simp
                intro x w1 hT hall
                have x0e : x 0 = .int .i64 (m : Int) := hall 0 (by decide)
                have x1e : x 1 = .slice (some ⟨b, o, none⟩) n c := hall 1 (by decide)
                have x2e : x 2 = .int .i64 (n : Int) := hall 2 (by decide)
                have x3e : x 3 = .bool true := hall 3 (by decide)
                have x4e : x 4 = .bool true := hall 4 (by decide)
                have x5e : x 5 = .slice (some ⟨b, o, none⟩) n c := hall 5 (by decide)
                have x6e : x 6 = .int .i64 (m : Int) := hall 6 (by decide)
                have x7e : x 7 = .pointer (some ⟨b, o + m * 3, none⟩) := hall 7 (by decide)
                have x8e : x 8 = .pointer (some ⟨b, o + m * 3, none⟩) := hall 8 (by decide)
                have x9e : x 9 = .int .i64 y1 := hall 9 (by decide)
                have x10e : x 10 = .pointer (some ⟨B1, 0, none⟩) := hall 10 (by decide)
                have x11e : x 11 = .int .i64 t1 := hall 11 (by decide)
                have x12e : x 12 = .bool true := hall 12 (by decide)
                have x13e : x 13 = .bool true := hall 13 (by decide)
                have x14e : x 14 = .bool true := hall 14 (by decide)
                have x15e : x 15 = .slice (some ⟨b, o, none⟩) n c := hall 15 (by decide)
                have x16e : x 16 = .int .i64 (m : Int) := hall 16 (by decide)
                have x17e : x 17 = .pointer (some ⟨b, o + m * 3, none⟩) := hall 17 (by decide)
                have x18e : x 18 = .pointer (some ⟨b, o + m * 3 + 1, none⟩) := hall 18 (by decide)
                have x19e : x 19 = .int .i64 y2 := hall 19 (by decide)
                have x20e : x 20 = .pointer (some ⟨B1, 1, none⟩) := hall 20 (by decide)
                have x21e : x 21 = .int .i64 t2 := hall 21 (by decide)
                have x22e : x 22 = .bool false := hall 22 (by decide)
                have x23e : x 23 = .bool false := hall 23 (by decide)
                simp only [putAll, dstOf, Act.put, List.map_cons, List.map_nil, List.setIfInBounds_toArray, List.set_cons_succ, List.set_cons_zero, Nat.reduceAdd, x0e, x1e, x2e, x3e, x4e, x5e, x6e, x7e, x8e, x9e, x10e, x11e, x12e, x13e, x14e, x15e, x16e, x17e, x18e, x19e, x20e, x21e, x22e, x23e]
                clear x0e x1e x2e x3e x4e x5e x6e x7e x8e x9e x10e x11e x12e x13e x14e x15e x16e x17e x18e x19e x20e x21e x22e x23e hall
                have HT := Lib.hid hT
                clear hT
                go_wp2_with fail
                go_meet
                exact ⟨rfl, by rw [HDT.out], HT.out⟩
            · have HE1 := Lib.hid (show (y1 == t1) = false from beq_eq_false_iff_ne.2 e1)
              have HDT := Lib.hid (show D = false from by rw [HDy.out]; exact decide_eq_false (fun h => e1 h.1))
              clear e1
              refine wp_region_phy (fun a b => Below a.heap.size a b) (fun h k => h.trans (k.mono h.size)) ((Below.refl _ _).drew) (by kernel_rfl) (by kernel_rfl) (by kernel_rfl) (by kernel_rfl) (phiT (fun i => ([some (.int .i64 (m : Int)), some (.slice (some ⟨b, o, none⟩) n c), some (.int .i64 (n : Int)), some (.bool true), some (.bool true), some (.slice (some ⟨b, o, none⟩) n c), some (.int .i64 (m : Int)), some (.pointer (some ⟨b, o + m * 3, none⟩)), some (.pointer (some ⟨b, o + m * 3, none⟩)), some (.int .i64 y1), some (.pointer (some ⟨B1, 0, none⟩)), some (.int .i64 t1), some (.bool false), some (.bool false), some (.bool false), some (undef), some (undef), some (undef), some (undef), some (undef), some (undef), some (undef), some (undef), some (.bool false)] : List (Option Value)).getD i none) (fun i v w => True)) (fun i v w w' h hb => ?_) ⟨?_, ?_, ?_, ?_, ?_, ?_, ?_, ?_, ?_, ?_, ?_, ?_, ?_, ?_, ?_, ?_, ?_, ?_, ?_, ?_, ?_, ?_, ?_, ?_, trivial⟩ ?_
              · unfold phiT at h ⊢
                split
                · next u hu => rw [hu] at h; exact h
                · next hu =>
                  rw [hu] at h
                  exact True.intro
              · intro x w1 bA hT hdep hold hb
                refine .inl ⟨trivial, ?_⟩
                have e5 : bA.tmps[5]?.getD undef = .int .i64 (m : Int) := hb 5
                refine phx_run (.int .i64 (m : Int)) ?_ (Below.refl _ _) rfl
                clear hb hdep hold
                go_simp
              · intro x w1 bA hT hdep hold hb
                refine .inl ⟨trivial, ?_⟩
                have e0 : bA.tmps[0]?.getD undef = .slice (some ⟨b, o, none⟩) n c := hb 0
                refine phx_run (.slice (some ⟨b, o, none⟩) n c) ?_ (Below.refl _ _) rfl
                clear hb hdep hold
                go_simp
              · intro x w1 bA hT hdep hold hb
                refine .inl ⟨trivial, ?_⟩
                have e22 : bA.tmps[22]?.getD undef = .slice (some ⟨b, o, none⟩) n c := (hb 22).trans (hdep 1 (by decide))
                refine phx_run (.int .i64 (n : Int)) ?_ (Below.refl _ _) rfl
                clear hb hdep hold
                go_simp
              · intro x w1 bA hT hdep hold hb
                refine .inl ⟨trivial, ?_⟩
                have e21 : bA.tmps[21]?.getD undef = .int .i64 (m : Int) := (hb 21).trans (hdep 0 (by decide))
                have e23 : bA.tmps[23]?.getD undef = .int .i64 (n : Int) := (hb 23).trans (hdep 2 (by decide))
                have zz := HZ1.out
                refine phx_run (.bool true) ?_ (Below.refl _ _) rfl
                clear hb hdep hold
                go_simp
              · intro x w1 bA hT hdep hold hb
                refine .inl ⟨trivial, ?_⟩
                have e24 : bA.tmps[24]?.getD undef = .bool true := (hb 24).trans (hdep 3 (by decide))
                refine phx_run (.bool true) ?_ (Below.refl _ _) rfl
                clear hb hdep hold
                go_simp
              · intro x w1 bA hT hdep hold hb
                refine .inl ⟨⟨25, rfl, (hb 25).trans (hdep 4 (by decide))⟩, ?_⟩
                have e0 : bA.tmps[0]?.getD undef = .slice (some ⟨b, o, none⟩) n c := hb 0
                refine phx_run (.slice (some ⟨b, o, none⟩) n c) ?_ (Below.refl _ _) rfl
                clear hb hdep hold
                go_simp
              · intro x w1 bA hT hdep hold hb
                refine .inl ⟨⟨25, rfl, (hb 25).trans (hdep 4 (by decide))⟩, ?_⟩
                have e5 : bA.tmps[5]?.getD undef = .int .i64 (m : Int) := hb 5
                refine phx_run (.int .i64 (m : Int)) ?_ (Below.refl _ _) rfl
                clear hb hdep hold
                go_simp
              · intro x w1 bA hT hdep hold hb
                refine .inl ⟨⟨25, rfl, (hb 25).trans (hdep 4 (by decide))⟩, ?_⟩
                have e26 : bA.tmps[26]?.getD undef = .slice (some ⟨b, o, none⟩) n c := (hb 26).trans (hdep 5 (by decide))
                have e27 : bA.tmps[27]?.getD undef = .int .i64 (m : Int) := (hb 27).trans (hdep 6 (by decide))
                have zz := HZ1.out
                refine phx_run (.pointer (some ⟨b, o + m * 3, none⟩)) ?_ (Below.refl _ _) rfl
                clear hb hdep hold
                go_simp
              · intro x w1 bA hT hdep hold hb
                refine .inl ⟨⟨25, rfl, (hb 25).trans (hdep 4 (by decide))⟩, ?_⟩
                have e28 : bA.tmps[28]?.getD undef = .pointer (some ⟨b, o + m * 3, none⟩) := (hb 28).trans (hdep 7 (by decide))
                refine phx_run (.pointer (some ⟨b, o + m * 3, none⟩)) ?_ (Below.refl _ _) rfl
                clear hb hdep hold
                go_simp
              · intro x w1 bA hT hdep hold hb
                refine .inl ⟨⟨25, rfl, (hb 25).trans (hdep 4 (by decide))⟩, ?_⟩
                have e29 : bA.tmps[29]?.getD undef = .pointer (some ⟨b, o + m * 3, none⟩) := (hb 29).trans (hdep 8 (by decide))
                obtain ⟨cc0, cc1, cc2⟩ := HLC.out w1 hT
                refine phx_run (.int .i64 y1) ?_ (Below.refl _ _) rfl
                clear hb hdep hold
                go_simp
              · intro x w1 bA hT hdep hold hb
                refine .inl ⟨⟨25, rfl, (hb 25).trans (hdep 4 (by decide))⟩, ?_⟩
                have e3 : bA.tmps[3]?.getD undef = .pointer (some ⟨B1, 0, none⟩) := hb 3
                refine phx_run (.pointer (some ⟨B1, 0, none⟩)) ?_ (Below.refl _ _) rfl
                clear hb hdep hold
                go_simp
              · intro x w1 bA hT hdep hold hb
                refine .inl ⟨⟨25, rfl, (hb 25).trans (hdep 4 (by decide))⟩, ?_⟩
                have e31 : bA.tmps[31]?.getD undef = .pointer (some ⟨B1, 0, none⟩) := (hb 31).trans (hdep 10 (by decide))
                have qq0 := (Q.out.below hT Q.out.lt).cell 0
                have qq1 := (Q.out.below hT Q.out.lt).cell 1
                have qq2 := (Q.out.below hT Q.out.lt).cell 2
                refine phx_run (.int .i64 t1) ?_ (Below.refl _ _) rfl
                clear hb hdep hold
                go_simp
              · intro x w1 bA hT hdep hold hb
                refine .inl ⟨⟨25, rfl, (hb 25).trans (hdep 4 (by decide))⟩, ?_⟩
                have e30 : bA.tmps[30]?.getD undef = .int .i64 y1 := (hb 30).trans (hdep 9 (by decide))
                have e32 : bA.tmps[32]?.getD undef = .int .i64 t1 := (hb 32).trans (hdep 11 (by decide))
                have zz := HE1.out
                refine phx_run (.bool false) ?_ (Below.refl _ _) rfl
                clear hb hdep hold
                go_simp
              · intro x w1 bA hT hdep hold hb
                refine .inl ⟨trivial, ?_⟩
                have e25 : bA.tmps[25]?.getD undef = .bool true := (hb 25).trans (hdep 4 (by decide))
                have e33 : bA.tmps[33]?.getD undef = .bool false := (hb 33).trans (hdep 12 (by decide))
                refine phx_run (.bool false) ?_ (Below.refl _ _) rfl
                clear hb hdep hold
                go_simp
              · intro x w1 bA hT hdep hold hb
                refine .inl ⟨trivial, ?_⟩
                have e34 : bA.tmps[34]?.getD undef = .bool false := (hb 34).trans (hdep 13 (by decide))
                refine phx_run (.bool false) ?_ (Below.refl _ _) rfl
                clear hb hdep hold
                go_simp
              · intro x w1 bA hT hdep hold hb
                exact .inr ⟨⟨35, rfl, .inl ((hb 35).trans (hdep 14 (by decide)))⟩, rfl⟩
              · intro x w1 bA hT hdep hold hb
                exact .inr ⟨⟨35, rfl, .inl ((hb 35).trans (hdep 14 (by decide)))⟩, rfl⟩
              · intro x w1 bA hT hdep hold hb
                exact .inr ⟨⟨35, rfl, .inl ((hb 35).trans (hdep 14 (by decide)))⟩, rfl⟩
              · intro x w1 bA hT hdep hold hb
                exact .inr ⟨⟨35, rfl, .inl ((hb 35).trans (hdep 14 (by decide)))⟩, rfl⟩
              · intro x w1 bA hT hdep hold hb
                exact .inr ⟨⟨35, rfl, .inl ((hb 35).trans (hdep 14 (by decide)))⟩, rfl⟩
              · intro x w1 bA hT hdep hold hb
                exact .inr ⟨⟨35, rfl, .inl ((hb 35).trans (hdep 14 (by decide)))⟩, rfl⟩
              · intro x w1 bA hT hdep hold hb
                exact .inr ⟨⟨35, rfl, .inl ((hb 35).trans (hdep 14 (by decide)))⟩, rfl⟩
              · intro x w1 bA hT hdep hold hb
                exact .inr ⟨⟨35, rfl, .inl ((hb 35).trans (hdep 14 (by decide)))⟩, rfl⟩
              · intro x w1 bA hT hdep hold hb
                refine .inl ⟨trivial, ?_⟩
                have e35 : bA.tmps[35]?.getD undef = .bool false := (hb 35).trans (hdep 14 (by decide))
                refine phx_run (.bool false) ?_ (Below.refl _ _) rfl
                clear hb hdep hold
                go_simp
              intro x w1 hT hall
              have x0e : x 0 = .int .i64 (m : Int) := hall 0 (by decide)
              have x1e : x 1 = .slice (some ⟨b, o, none⟩) n c := hall 1 (by decide)
              have x2e : x 2 = .int .i64 (n : Int) := hall 2 (by decide)
              have x3e : x 3 = .bool true := hall 3 (by decide)
              have x4e : x 4 = .bool true := hall 4 (by decide)
              have x5e : x 5 = .slice (some ⟨b, o, none⟩) n c := hall 5 (by decide)
              have x6e : x 6 = .int .i64 (m : Int) := hall 6 (by decide)
              have x7e : x 7 = .pointer (some ⟨b, o + m * 3, none⟩) := hall 7 (by decide)
              have x8e : x 8 = .pointer (some ⟨b, o + m * 3, none⟩) := hall 8 (by decide)
              have x9e : x 9 = .int .i64 y1 := hall 9 (by decide)
              have x10e : x 10 = .pointer (some ⟨B1, 0, none⟩) := hall 10 (by decide)
              have x11e : x 11 = .int .i64 t1 := hall 11 (by decide)
              have x12e : x 12 = .bool false := hall 12 (by decide)
              have x13e : x 13 = .bool false := hall 13 (by decide)
              have x14e : x 14 = .bool false := hall 14 (by decide)
              have x15e : x 15 = undef := hall 15 (by decide)
              have x16e : x 16 = undef := hall 16 (by decide)
              have x17e : x 17 = undef := hall 17 (by decide)
              have x18e : x 18 = undef := hall 18 (by decide)
              have x19e : x 19 = undef := hall 19 (by decide)
              have x20e : x 20 = undef := hall 20 (by decide)
              have x21e : x 21 = undef := hall 21 (by decide)
              have x22e : x 22 = undef := hall 22 (by decide)
              have x23e : x 23 = .bool false := hall 23 (by decide)
              simp only [putAll, dstOf, Act.put, List.map_cons, List.map_nil, List.setIfInBounds_toArray, List.set_cons_succ, List.set_cons_zero, Nat.reduceAdd, x0e, x1e, x2e, x3e, x4e, x5e, x6e, x7e, x8e, x9e, x10e, x11e, x12e, x13e, x14e, x15e, x16e, x17e, x18e, x19e, x20e, x21e, x22e, x23e]
              clear x0e x1e x2e x3e x4e x5e x6e x7e x8e x9e x10e x11e x12e x13e x14e x15e x16e x17e x18e x19e x20e x21e x22e x23e hall
              have HT := Lib.hid hT
              clear hT
              go_wp2_with fail
              go_meet
              exact ⟨rfl, by rw [HDT.out], HT.out⟩
          · have HZ1 := Lib.hid (show ¬ (m : Int) < (n : Int) by have := HN.out; omega)
            have HDT := Lib.hid (show D = false from by rw [HDD.out]; exact decide_eq_false (fun ⟨h, _⟩ => hiL h))
            refine wp_region_phy (fun a b => Below a.heap.size a b) (fun h k => h.trans (k.mono h.size)) ((Below.refl _ _).drew) (by kernel_rfl) (by kernel_rfl) (by kernel_rfl) (by kernel_rfl) (phiT (fun i => ([some (.int .i64 (m : Int)), some (.slice A n c), some (.int .i64 (n : Int)), some (.bool false), some (.bool false), some (undef), some (undef), some (undef), some (undef), some (undef), some (undef), some (undef), some (undef), some (.bool false), some (.bool false), some (undef), some (undef), some (undef), some (undef), some (undef), some (undef), some (undef), some (undef), some (.bool false)] : List (Option Value)).getD i none) (fun i v w => True)) (fun i v w w' h hb => ?_) ⟨?_, ?_, ?_, ?_, ?_, ?_, ?_, ?_, ?_, ?_, ?_, ?_, ?_, ?_, ?_, ?_, ?_, ?_, ?_, ?_, ?_, ?_, ?_, ?_, trivial⟩ ?_
            · unfold phiT at h ⊢
              split
              · next u hu => rw [hu] at h; exact h
              · next hu =>
                rw [hu] at h
                exact True.intro
            · intro x w1 bA hT hdep hold hb
              refine .inl ⟨trivial, ?_⟩
              have e5 : bA.tmps[5]?.getD undef = .int .i64 (m : Int) := hb 5
              refine phx_run (.int .i64 (m : Int)) ?_ (Below.refl _ _) rfl
              clear hb hdep hold
              go_simp
            · intro x w1 bA hT hdep hold hb
              refine .inl ⟨trivial, ?_⟩
              have e0 : bA.tmps[0]?.getD undef = .slice A n c := hb 0
              refine phx_run (.slice A n c) ?_ (Below.refl _ _) rfl
              clear hb hdep hold
              go_simp
            · intro x w1 bA hT hdep hold hb
              refine .inl ⟨trivial, ?_⟩
              have e22 : bA.tmps[22]?.getD undef = .slice A n c := (hb 22).trans (hdep 1 (by decide))
              refine phx_run (.int .i64 (n : Int)) ?_ (Below.refl _ _) rfl
              clear hb hdep hold
              go_simp
            · intro x w1 bA hT hdep hold hb
              refine .inl ⟨trivial, ?_⟩
              have e21 : bA.tmps[21]?.getD undef = .int .i64 (m : Int) := (hb 21).trans (hdep 0 (by decide))
              have e23 : bA.tmps[23]?.getD undef = .int .i64 (n : Int) := (hb 23).trans (hdep 2 (by decide))
              have zz := HZ1.out
              refine phx_run (.bool false) ?_ (Below.refl _ _) rfl
              clear hb hdep hold
              go_simp
            · intro x w1 bA hT hdep hold hb
              refine .inl ⟨trivial, ?_⟩
              have e24 : bA.tmps[24]?.getD undef = .bool false := (hb 24).trans (hdep 3 (by decide))
              refine phx_run (.bool false) ?_ (Below.refl _ _) rfl
              clear hb hdep hold
              go_simp
            · intro x w1 bA hT hdep hold hb
              exact .inr ⟨⟨25, rfl, .inl ((hb 25).trans (hdep 4 (by decide)))⟩, rfl⟩
            · intro x w1 bA hT hdep hold hb
              exact .inr ⟨⟨25, rfl, .inl ((hb 25).trans (hdep 4 (by decide)))⟩, rfl⟩
            · intro x w1 bA hT hdep hold hb
              exact .inr ⟨⟨25, rfl, .inl ((hb 25).trans (hdep 4 (by decide)))⟩, rfl⟩
            · intro x w1 bA hT hdep hold hb
              exact .inr ⟨⟨25, rfl, .inl ((hb 25).trans (hdep 4 (by decide)))⟩, rfl⟩
            · intro x w1 bA hT hdep hold hb
              exact .inr ⟨⟨25, rfl, .inl ((hb 25).trans (hdep 4 (by decide)))⟩, rfl⟩
            · intro x w1 bA hT hdep hold hb
              exact .inr ⟨⟨25, rfl, .inl ((hb 25).trans (hdep 4 (by decide)))⟩, rfl⟩
            · intro x w1 bA hT hdep hold hb
              exact .inr ⟨⟨25, rfl, .inl ((hb 25).trans (hdep 4 (by decide)))⟩, rfl⟩
            · intro x w1 bA hT hdep hold hb
              exact .inr ⟨⟨25, rfl, .inl ((hb 25).trans (hdep 4 (by decide)))⟩, rfl⟩
            · intro x w1 bA hT hdep hold hb
              refine .inl ⟨trivial, ?_⟩
              have e25 : bA.tmps[25]?.getD undef = .bool false := (hb 25).trans (hdep 4 (by decide))
              refine phx_run (.bool false) ?_ (Below.refl _ _) rfl
              clear hb hdep hold
              go_simp
            · intro x w1 bA hT hdep hold hb
              refine .inl ⟨trivial, ?_⟩
              have e34 : bA.tmps[34]?.getD undef = .bool false := (hb 34).trans (hdep 13 (by decide))
              refine phx_run (.bool false) ?_ (Below.refl _ _) rfl
              clear hb hdep hold
              go_simp
            · intro x w1 bA hT hdep hold hb
              exact .inr ⟨⟨35, rfl, .inl ((hb 35).trans (hdep 14 (by decide)))⟩, rfl⟩
            · intro x w1 bA hT hdep hold hb
              exact .inr ⟨⟨35, rfl, .inl ((hb 35).trans (hdep 14 (by decide)))⟩, rfl⟩
            · intro x w1 bA hT hdep hold hb
              exact .inr ⟨⟨35, rfl, .inl ((hb 35).trans (hdep 14 (by decide)))⟩, rfl⟩
            · intro x w1 bA hT hdep hold hb
              exact .inr ⟨⟨35, rfl, .inl ((hb 35).trans (hdep 14 (by decide)))⟩, rfl⟩
            · intro x w1 bA hT hdep hold hb
              exact .inr ⟨⟨35, rfl, .inl ((hb 35).trans (hdep 14 (by decide)))⟩, rfl⟩
            · intro x w1 bA hT hdep hold hb
              exact .inr ⟨⟨35, rfl, .inl ((hb 35).trans (hdep 14 (by decide)))⟩, rfl⟩
            · intro x w1 bA hT hdep hold hb
              exact .inr ⟨⟨35, rfl, .inl ((hb 35).trans (hdep 14 (by decide)))⟩, rfl⟩
            · intro x w1 bA hT hdep hold hb
              exact .inr ⟨⟨35, rfl, .inl ((hb 35).trans (hdep 14 (by decide)))⟩, rfl⟩
            · intro x w1 bA hT hdep hold hb
              refine .inl ⟨trivial, ?_⟩
              have e35 : bA.tmps[35]?.getD undef = .bool false := (hb 35).trans (hdep 14 (by decide))
              refine phx_run (.bool false) ?_ (Below.refl _ _) rfl
              clear hb hdep hold
              go_simp
            intro x w1 hT hall
            have x0e : x 0 = .int .i64 (m : Int) := hall 0 (by decide)
            have x1e : x 1 = .slice A n c := hall 1 (by decide)
            have x2e : x 2 = .int .i64 (n : Int) := hall 2 (by decide)
            have x3e : x 3 = .bool false := hall 3 (by decide)
            have x4e : x 4 = .bool false := hall 4 (by decide)
            have x5e : x 5 = undef := hall 5 (by decide)
            have x6e : x 6 = undef := hall 6 (by decide)
            have x7e : x 7 = undef := hall 7 (by decide)
            have x8e : x 8 = undef := hall 8 (by decide)
            have x9e : x 9 = undef := hall 9 (by decide)
            have x10e : x 10 = undef := hall 10 (by decide)
            have x11e : x 11 = undef := hall 11 (by decide)
            have x12e : x 12 = undef := hall 12 (by decide)
            have x13e : x 13 = .bool false := hall 13 (by decide)
            have x14e : x 14 = .bool false := hall 14 (by decide)
            have x15e : x 15 = undef := hall 15 (by decide)
            have x16e : x 16 = undef := hall 16 (by decide)
            have x17e : x 17 = undef := hall 17 (by decide)
            have x18e : x 18 = undef := hall 18 (by decide)
            have x19e : x 19 = undef := hall 19 (by decide)
            have x20e : x 20 = undef := hall 20 (by decide)
            have x21e : x 21 = undef := hall 21 (by decide)
            have x22e : x 22 = undef := hall 22 (by decide)
            have x23e : x 23 = .bool false := hall 23 (by decide)
            simp only [putAll, dstOf, Act.put, List.map_cons, List.map_nil, List.setIfInBounds_toArray, List.set_cons_succ, List.set_cons_zero, Nat.reduceAdd, x0e, x1e, x2e, x3e, x4e, x5e, x6e, x7e, x8e, x9e, x10e, x11e, x12e, x13e, x14e, x15e, x16e, x17e, x18e, x19e, x20e, x21e, x22e, x23e]
            clear x0e x1e x2e x3e x4e x5e x6e x7e x8e x9e x10e x11e x12e x13e x14e x15e x16e x17e x18e x19e x20e x21e x22e x23e hall
            have HT := Lib.hid hT
            clear hT
            go_wp2_with fail
            go_meet
            exact ⟨rfl, by rw [HDT.out], HT.out⟩
        case rest =>
          obtain ⟨rfl, rfl, hbw⟩ := hcut
          obtain ⟨w4, hw4⟩ : ∃ W, W = wc := ⟨_, rfl⟩
          rw [← hw4] at hbw ⊢
          have Q4 := Lib.hid (Q.out.below hbw Q.out.lt)
          have HB4 := Lib.hid (HB5.out.trans (hbw.mono HB5.out.size))
          have HS4 := Lib.hid (fun W (hb : Below w4.heap.size w4 W) => HS.out W (HB4.out.trans (hb.mono HB4.out.size)))
          clear hbw hw4 Q HB5 HS
          cases D with
          | true =>
            obtain ⟨hiL, heq⟩ := of_decide_eq_true HDD.out.symm
            have HK := Lib.hid (plusL_old (l := l) (t := ((t1, t2), t3)) hiL HP.out heq)
            have HYB := Lib.hid (HLB.out _ (List.getElem_mem hiL))
            have HZ1 := Lib.hid (show (m : Int) < (n : Int) by have := HN.out; omega)
            have HY := Lib.hid (show ∃ h : m < l.length, l[m] = l[m] from ⟨hiL, rfl⟩)
            go_upto_region 6 with (at_builtin; go_loud (refine wpList_appA rfl elR (.tmp 45) (.tmp 46) 22 22 rfl Tryz.underlying22 Tryz.underlying22 rfl (OwnA.emptyAt HB4.out.size (heap_alloc_new w4 _)) rfl (HS4.out _ ((Below.refl _ _).alloc (Nat.le_refl _) _)) (by have := HN.out; simp; omega) (by have := HB4.out.size; simp; omega) ?_); go_loud (intro v' wd h1 h2 h3 h4; have H1 := Lib.hid h1; have H2 := Lib.hid (HB4.out.trans (((Below.refl _ _).alloc HB4.out.size _).trans h2)); have H3 := Lib.hid (show Arr wd B1 34 [.int .i64 t1, .int .i64 t2, .int .i64 t3] from (h3 B1 (by have := Q4.out.lt; simp; omega) (by intro q; have q2 : w4.heap.size = B1 := Option.some.inj q; have := Q4.out.lt; omega)).trans (Q4.out.alloc _)); clear h1 h2 h3 h4; rw [List.nil_append] at H1; obtain ⟨AO, cO, rfl⟩ := H1.out.form))
            have ho := H1.out
            have hbd := H2.out
            have hqd := H3.out
            clear H1 H2 H3 Q4
            rw [← HN.out] at ho ⊢
            obtain ⟨g, rfl, hgb, q1, q2⟩ := ho.cset hiL
            clear q1 q2
            have HO := Lib.hid (fun W (hb : Below wd.heap.size wd W) => ((ho.below hb).cset hiL))
            have HGB := Lib.hid hgb
            have Q4 := Lib.hid hqd
            have HBD := Lib.hid hbd
            clear ho hgb hqd hbd HB4 HS4
            obtain ⟨⟨⟨y1, y2⟩, y3⟩, hy⟩ : ∃ y, y = l[m] := ⟨_, rfl⟩
            have HM2 := Lib.hid hy.symm
            rw [← hy] at HK HYB
            simp only at HK HYB
            have HWR := Lib.hid (show IntKind.i64.wrap (y3 + t3) = y3 + t3 from IntWalk.i64_in _ (by have := HYB.out; have := HTB.out; omega))
            clear hy HY heq
            refine wp_region_phis 12 (by kernel_rfl) (by kernel_rfl) (by kernel_rfl) (by kernel_rfl) (by kernel_rfl) rfl (by kernel_rfl) (phiT (fun i => ([some (.slice (some ⟨g, 0, none⟩) n cO), some (.int .i64 (m : Int)), some (.slice (some ⟨g, 0, none⟩) n cO), some (.int .i64 (m : Int)), some (.pointer (some ⟨g, m * 3, none⟩)), some (.pointer (some ⟨g, m * 3 + 2, none⟩)), some (.int .i64 y3), some (.pointer (some ⟨B1, 2, none⟩)), some (.int .i64 t3), some (.int .i64 (y3 + t3)), some (.pointer (some ⟨g, m * 3, none⟩)), some (.pointer (some ⟨g, m * 3 + 2, none⟩)), some (undef)] : List (Option Value)).getD i none) (fun i v w => True)) (fun i v w w' h hb => ?_) (fun i => false) (fun i v w hi h k hk => ?_) (fun _ W => OwnA 34 3 tB w.heap.size W (.slice (some ⟨g, 0, none⟩) n cO) (l.set m ((y1, y2), y3 + t3)) ∧ Below w.heap.size w W) ⟨?_, ?_, ?_, ?_, ?_, ?_, ?_, ?_, ?_, ?_, ?_, ?_, ?_, trivial⟩ ?_
            · unfold phiT at h ⊢
              split
              · next u hu => rw [hu] at h; exact h
              · next hu =>
                rw [hu] at h
                exact True.intro
            · simp only [Bool.or_eq_true, decide_eq_true_eq, Bool.false_eq_true] at hi
            · intro x w1 bA hbel hdep hdap hold hb
              refine ⟨fun _ => ?_, fun h => absurd h (by decide)⟩
              have e6 : bA.tmps[6]?.getD undef = .slice (some ⟨g, 0, none⟩) n cO := hb 6
              refine phf_run (.slice (some ⟨g, 0, none⟩) n cO) rfl ?_ rfl
              clear hb hdep hdap hold
              go_simp
            · intro x w1 bA hbel hdep hdap hold hb
              refine ⟨fun _ => ?_, fun h => absurd h (by decide)⟩
              have e5 : bA.tmps[5]?.getD undef = .int .i64 (m : Int) := hb 5
              refine phf_run (.int .i64 (m : Int)) rfl ?_ rfl
              clear hb hdep hdap hold
              go_simp
            · intro x w1 bA hbel hdep hdap hold hb
              refine ⟨fun _ => ?_, fun h => absurd h (by decide)⟩
              have e6 : bA.tmps[6]?.getD undef = .slice (some ⟨g, 0, none⟩) n cO := hb 6
              refine phf_run (.slice (some ⟨g, 0, none⟩) n cO) rfl ?_ rfl
              clear hb hdep hdap hold
              go_simp
            · intro x w1 bA hbel hdep hdap hold hb
              refine ⟨fun _ => ?_, fun h => absurd h (by decide)⟩
              have e5 : bA.tmps[5]?.getD undef = .int .i64 (m : Int) := hb 5
              refine phf_run (.int .i64 (m : Int)) rfl ?_ rfl
              clear hb hdep hdap hold
              go_simp
            · intro x w1 bA hbel hdep hdap hold hb
              refine ⟨fun _ => ?_, fun h => absurd h (by decide)⟩
              have e50 : bA.tmps[50]?.getD undef = .slice (some ⟨g, 0, none⟩) n cO := (hb 50).trans (hdep 2 (by decide))
              have e51 : bA.tmps[51]?.getD undef = .int .i64 (m : Int) := (hb 51).trans (hdep 3 (by decide))
              have zz := HZ1.out
              refine phf_run (.pointer (some ⟨g, m * 3, none⟩)) rfl ?_ rfl
              clear hb hdep hdap hold
              go_simp
            · intro x w1 bA hbel hdep hdap hold hb
              refine ⟨fun _ => ?_, fun h => absurd h (by decide)⟩
              have e52 : bA.tmps[52]?.getD undef = .pointer (some ⟨g, m * 3, none⟩) := (hb 52).trans (hdep 4 (by decide))
              refine phf_run (.pointer (some ⟨g, m * 3 + 2, none⟩)) rfl ?_ rfl
              clear hb hdep hdap hold
              go_simp
            · intro x w1 bA hbel hdep hdap hold hb
              refine ⟨fun _ => ?_, fun h => absurd h (by decide)⟩
              have e53 : bA.tmps[53]?.getD undef = .pointer (some ⟨g, m * 3 + 2, none⟩) := (hb 53).trans (hdep 5 (by decide))
              obtain ⟨g1, hg1, q1, q2, cc0, cc1, cc2, q3, q4⟩ := HO.out w1 hbel
              clear q1 q2 q3 q4 cc0 cc1
              injection hg1 with hg1
              injection hg1 with hg1
              subst hg1
              rw [HM2.out] at cc2
              refine phf_run (.int .i64 y3) rfl ?_ rfl
              clear hb hdep hdap hold
              go_simp
            · intro x w1 bA hbel hdep hdap hold hb
              refine ⟨fun _ => ?_, fun h => absurd h (by decide)⟩
              have e3 : bA.tmps[3]?.getD undef = .pointer (some ⟨B1, 0, none⟩) := hb 3
              refine phf_run (.pointer (some ⟨B1, 2, none⟩)) rfl ?_ rfl
              clear hb hdep hdap hold
              go_simp
            · intro x w1 bA hbel hdep hdap hold hb
              refine ⟨fun _ => ?_, fun h => absurd h (by decide)⟩
              have e55 : bA.tmps[55]?.getD undef = .pointer (some ⟨B1, 2, none⟩) := (hb 55).trans (hdep 7 (by decide))
              have qq2 := (Q4.out.below hbel Q4.out.lt).cell 2
              refine phf_run (.int .i64 t3) rfl ?_ rfl
              clear hb hdep hdap hold
              go_simp
            · intro x w1 bA hbel hdep hdap hold hb
              refine ⟨fun _ => ?_, fun h => absurd h (by decide)⟩
              have e54 : bA.tmps[54]?.getD undef = .int .i64 y3 := (hb 54).trans (hdep 6 (by decide))
              have e56 : bA.tmps[56]?.getD undef = .int .i64 t3 := (hb 56).trans (hdep 8 (by decide))
              have zz := HWR.out
              refine phf_run (.int .i64 (y3 + t3)) rfl ?_ rfl
              clear hb hdep hdap hold
              go_simp
            · intro x w1 bA hbel hdep hdap hold hb
              refine ⟨fun _ => ?_, fun h => absurd h (by decide)⟩
              have e48 : bA.tmps[48]?.getD undef = .slice (some ⟨g, 0, none⟩) n cO := (hb 48).trans (hdep 0 (by decide))
              have e49 : bA.tmps[49]?.getD undef = .int .i64 (m : Int) := (hb 49).trans (hdep 1 (by decide))
              have zz := HZ1.out
              refine phf_run (.pointer (some ⟨g, m * 3, none⟩)) rfl ?_ rfl
              clear hb hdep hdap hold
              go_simp
            · intro x w1 bA hbel hdep hdap hold hb
              refine ⟨fun _ => ?_, fun h => absurd h (by decide)⟩
              have e58 : bA.tmps[58]?.getD undef = .pointer (some ⟨g, m * 3, none⟩) := (hb 58).trans (hdep 10 (by decide))
              refine phf_run (.pointer (some ⟨g, m * 3 + 2, none⟩)) rfl ?_ rfl
              clear hb hdep hdap hold
              go_simp
            · intro x w1 bA hbel hdep hdap hold hb
              refine ⟨fun h => absurd h (by decide), fun _ hall => ?_⟩
              have e57 : bA.tmps[57]?.getD undef = .int .i64 (y3 + t3) := (hb 57).trans (hdep 9 (by decide))
              have e59 : bA.tmps[59]?.getD undef = .pointer (some ⟨g, m * 3 + 2, none⟩) := (hb 59).trans (hdep 11 (by decide))
              clear hb hdep hdap hold
              obtain ⟨g1, hg1, q1, q2, cc0, cc1, cc2, f2, hst⟩ := HO.out w1 hbel
              clear q1 q2 cc0 cc1
              injection hg1 with hg1
              injection hg1 with hg1
              subst hg1
              rw [HM2.out] at cc2
              have HST := Lib.hid (hst (y3 + t3))
              rw [HM2.out] at HST
              have HBL := Lib.hid hbel
              clear hst hbel
              refine phs_store (x := x) (n := 12) (R := fun _ W => OwnA 34 3 tB w.heap.size W (.slice (some ⟨g, 0, none⟩) n cO) (l.set m ((y1, y2), y3 + t3)) ∧ Below w.heap.size w W) (w1.setCell ⟨g, m * 3 + 2, none⟩ (.int .i64 (y3 + t3))) ?_ rfl (fun _ => ⟨HST.out, (HBD.out.trans (HBL.out.mono HBD.out.size)).setCell (p := ⟨g, m * 3 + 2, none⟩) HGB.out _⟩)
              go_simp
            intro x w1 hR
            simp only [putAll, dstOf, Act.put, List.map_cons, List.map_nil, List.setIfInBounds_toArray, List.set_cons_succ, List.set_cons_zero, Nat.reduceAdd]
            have HR := Lib.hid hR
            clear hR
            go_wp2_with fail
            go_ret
            exact ⟨_, rfl, by rw [HK.out]; exact HR.out.1.sl, HR.out.2⟩
          | false =>
            have HN2 := Lib.hid (of_decide_eq_false HDD.out.symm)
            have HK := Lib.hid (plusL_new (l := l) (t := ((t1, t2), t3)) (m := m) (by have := HN.out; omega) HP.out (fun h => ⟨fun q => HNR.out ⟨h, q⟩, fun q => HN2.out ⟨h, q⟩⟩))
            go_upto_region 8 with fail
            obtain ⟨AU, hAU⟩ : ∃ AU, (if c = m then A else Option.map (fun x : Addr => x.add (m * 3)) A) = AU := ⟨_, rfl⟩
            have HL1 := Lib.hid (fun W (hb : Below w4.heap.size w4 W) => (show SlA tB W (.slice A m c) (l.take m) from by
              have := (HS4.out W hb).sub (sz := 3) (fun x => rfl) (by omega) (lo := 0) (hi := m) (Nat.zero_le _) (by have := HN.out; omega) c (by omega) A (fun _ => by cases A <;> simp [Addr.add])
              simpa using this))
            have HL2 := Lib.hid (fun W (hb : Below w4.heap.size w4 W) => (show SlA tB W (.slice AU (n - m) (c - m)) (l.drop m) from by
              have := (HS4.out W hb).sub (sz := 3) (fun x => rfl) (by omega) (lo := m) (hi := n) (by omega) (by have := HN.out; omega) (c - m) (by omega) AU (fun h => by rw [← hAU, if_neg (by omega)])
              rw [List.take_of_length_le (by have := HN.out; omega)] at this
              exact this))
            have z1 : (m : Int) ≤ (n : Int) := by omega
            have z2 : (n : Int) ≤ (c : Int) := by omega
            have z3 : (m : Int) ≤ (c : Int) := by omega
            go_cut [4] from 61 to 72 (fun s4 wx => SlA tB wx s4 (l.take m ++ [((t1, t2), t3)] ++ l.drop m) ∧ Below w4.heap.size w4 wx)
            case first =>
              refine wp_region_factsU (by kernel_rfl) (by kernel_rfl) (by kernel_rfl) (by kernel_rfl) (by kernel_rfl) (ChA 34 3 tB w4.heap.size w4 (fun i => ([none, some (.slice A n c), some (.int .i64 (m : Int)), some (.slice A m c), none, some (.agg #[.int .i64 t1, .int .i64 t2, .int .i64 t3]), none, none, some (.slice A n c), some (.int .i64 (m : Int)), some (.slice AU (n - m) (c - m)), none, none] : List (Option Value)).getD i none) [(0, 4, []), (4, 7, [] ++ l.take m), (7, 11, [] ++ l.take m ++ [((t1, t2), t3)]), (11, 12, [] ++ l.take m ++ [((t1, t2), t3)] ++ l.drop m)] 6 7 12 ([] ++ l.take m ++ [((t1, t2), t3)] ++ l.drop m) ([((t1, t2), t3)])) ?_ ⟨?_, ?_, ?_, ?_, ?_, ?_, ?_, ?_, ?_, ?_, ?_, ?_, ?_, trivial⟩ ?_
              · exact fun x => ⟨(Below.refl _ _).drew, Nat.le_refl _, fun i v _ h => Bool.noConfusion h, fun s _ h => Bool.noConfusion h, fun h => Bool.noConfusion h, fun h => Bool.noConfusion h⟩
              · intro D x w1 bA hI hD hdep hcl hb
                have hq0 : D 0 = false := hD
                have hq4 : D 4 = false := by cases h : D 4 with | false => rfl | true => (have := hcl 4 h 0 (by decide); rw [hq0] at this; cases this)
                have hq7 : D 7 = false := by cases h : D 7 with | false => rfl | true => (have := hcl 7 h 4 (by decide); rw [hq4] at this; cases this)
                have hq11 : D 11 = false := by cases h : D 11 with | false => rfl | true => (have := hcl 11 h 7 (by decide); rw [hq7] at this; cases this)
                have hq12 : D 12 = false := by cases h : D 12 with | false => rfl | true => (have := hcl 12 h 11 (by decide); rw [hq11] at this; cases this)
                refine wp_of_run (.slice (some ⟨w1.heap.size, 0, none⟩) 0 0) (w' := w1.alloc (.cells #[] 34)) ?_ (hI.stage (i := 0) (n := 4) (L := []) (by simp) (fun s hs h => by simp only [List.mem_cons, List.not_mem_nil, or_false] at hs; rcases hs with rfl | rfl | rfl | rfl <;> first | rfl | cases h) (fun s hs hne hd => by
                  simp only [List.mem_cons, List.not_mem_nil, or_false] at hs
                  rcases hs with rfl | rfl | rfl | rfl
                  · exact absurd rfl hne
                  · exact absurd hd (by rw [hq4]; decide)
                  · exact absurd hd (by rw [hq7]; decide)
                  · exact absurd hd (by rw [hq11]; decide)) rfl (by decide) (by decide) hq12 ((Below.refl _ _).alloc hI.siz _) (OwnA.emptyAt hI.siz (heap_alloc_new w1 _)) (fun d1 _ d3 => ⟨(hI.lit d1 d3).1.alloc _, fun k hk e => by have e2 : w1.heap.size = k := Option.some.inj e; have := (hI.lit d1 d3).1.lt k hk; omega⟩))
                clear hb hI hdep hcl
                go_simp
              · intro D x w1 bA hI hD hdep hcl hb
                have e0 : bA.tmps[0]?.getD undef = .slice A n c := hb 0
                refine wp_of_run (.slice A n c) (w' := w1) ?_ (hI.val rfl (by simp) (by decide) (by decide) (by decide))
                clear hb hI hdep hcl
                go_simp
              · intro D x w1 bA hI hD hdep hcl hb
                have e5 : bA.tmps[5]?.getD undef = .int .i64 (m : Int) := hb 5
                refine wp_of_run (.int .i64 (m : Int)) (w' := w1) ?_ (hI.val rfl (by simp) (by decide) (by decide) (by decide))
                clear hb hI hdep hcl
                go_simp
              · intro D x w1 bA hI hD hdep hcl hb
                have e62 : bA.tmps[62]?.getD undef = .slice A n c := (hb 62).trans (hI.kn 1 _ rfl (hdep 1 (by decide)))
                have e63 : bA.tmps[63]?.getD undef = .int .i64 (m : Int) := (hb 63).trans (hI.kn 2 _ rfl (hdep 2 (by decide)))
                refine wp_of_run (.slice A m c) (w' := w1) ?_ (hI.val rfl (by simp) (by decide) (by decide) (by decide))
                clear hb hI hdep hcl
                go_simp
              · intro D x w1 bA hI hD hdep hcl hb
                have hp0 : D 0 = true := hdep 0 (by decide)
                have hq4 : D 4 = false := hD
                have hq7 : D 7 = false := by cases h : D 7 with | false => rfl | true => (have := hcl 7 h 4 (by decide); rw [hq4] at this; cases this)
                have hq11 : D 11 = false := by cases h : D 11 with | false => rfl | true => (have := hcl 11 h 7 (by decide); rw [hq7] at this; cases this)
                have hq12 : D 12 = false := by cases h : D 12 with | false => rfl | true => (have := hcl 12 h 11 (by decide); rw [hq11] at this; cases this)
                have ee1 : bA.tmps[61]?.getD undef = x 0 := hb 61
                have ee2 : bA.tmps[64]?.getD undef = .slice A m c := (hb 64).trans (hI.kn 3 _ rfl (hdep 3 (by decide)))
                exact hI.app elR (.tmp 61) (.tmp 64) 22 22 rfl Tryz.underlying22 Tryz.underlying22 (r := 0) (i := 4) (n := 7) (L := []) (ys := l.take m) (by simp) (by simp) (fun s hs h => by simp only [List.mem_cons, List.not_mem_nil, or_false] at hs; rcases hs with rfl | rfl | rfl | rfl <;> first | rfl | cases h) (fun s hs hne hd => by
                  simp only [List.mem_cons, List.not_mem_nil, or_false] at hs
                  rcases hs with rfl | rfl | rfl | rfl
                  · exact .inl rfl
                  · exact absurd rfl hne
                  · exact absurd hd (by rw [hq7]; decide)
                  · exact absurd hd (by rw [hq11]; decide)) rfl (by decide) (by decide) hq12 hp0 hD (by simpa [Act.eval] using ee1) (by simpa [Act.eval] using ee2) (HL1.out _ hI.bel) (by simp only [List.length_append, List.length_nil, List.length_cons, List.length_take, List.length_drop]; have := HN.out; omega)
              · intro D x w1 bA hI hD hdep hcl hb
                have e3 : bA.tmps[3]?.getD undef = .pointer (some ⟨B1, 0, none⟩) := hb 3
                have qq0 := (Q4.out.below hI.bel Q4.out.lt).cell 0
                have qq1 := (Q4.out.below hI.bel Q4.out.lt).cell 1
                have qq2 := (Q4.out.below hI.bel Q4.out.lt).cell 2
                refine wp_of_run (.agg #[.int .i64 t1, .int .i64 t2, .int .i64 t3]) (w' := w1) ?_ (hI.val rfl (by simp) (by decide) (by decide) (by decide))
                clear hb hI hdep hcl
                go_simp
              · intro D x w1 bA hI hD hdep hcl hb
                have e66 : bA.tmps[66]?.getD undef = .agg #[.int .i64 t1, .int .i64 t2, .int .i64 t3] := (hb 66).trans (hI.kn 5 _ rfl (hdep 5 (by decide)))
                refine wp_of_run (.slice (some ⟨w1.heap.size, 0, none⟩) 1 1) (w' := w1.alloc (.cells #[.int .i64 t1, .int .i64 t2, .int .i64 t3] 34)) ?_ (hI.call (by simp) rfl (by decide) ((Below.refl _ _).alloc (Nat.le_refl _) _) (OwnA.lit (xs := [((t1, t2), t3)]) (fun y _ => elR.len y) (Nat.le_refl _) (by simp) (by simp)))
                clear hb hI hdep hcl
                go_simp
              · intro D x w1 bA hI hD hdep hcl hb
                have hp4 : D 4 = true := hdep 4 (by decide)
                have hp0 : D 0 = true := hcl 4 hp4 0 (by decide)
                have hq7 : D 7 = false := hD
                have hq11 : D 11 = false := by cases h : D 11 with | false => rfl | true => (have := hcl 11 h 7 (by decide); rw [hq7] at this; cases this)
                have hq12 : D 12 = false := by cases h : D 12 with | false => rfl | true => (have := hcl 12 h 11 (by decide); rw [hq11] at this; cases this)
                have hiv := hI.lit (hdep 6 (by decide)) hD
                have ee1 : bA.tmps[65]?.getD undef = x 4 := hb 65
                have ee2 : bA.tmps[67]?.getD undef = x 6 := hb 67
                exact hI.app elR (.tmp 65) (.tmp 67) 22 22 rfl Tryz.underlying22 Tryz.underlying22 (r := 4) (i := 7) (n := 11) (L := [] ++ l.take m) (ys := [((t1, t2), t3)]) (by simp) (by simp) (fun s hs h => by simp only [List.mem_cons, List.not_mem_nil, or_false] at hs; rcases hs with rfl | rfl | rfl | rfl <;> first | rfl | cases h) (fun s hs hne hd => by
                  simp only [List.mem_cons, List.not_mem_nil, or_false] at hs
                  rcases hs with rfl | rfl | rfl | rfl
                  · exact .inr hp4
                  · exact .inl rfl
                  · exact absurd rfl hne
                  · exact absurd hd (by rw [hq11]; decide)) rfl (by decide) (by decide) hq12 hp4 hD (by simpa [Act.eval] using ee1) (by simpa [Act.eval] using ee2) hiv.1.sl (by simp only [List.length_append, List.length_nil, List.length_cons, List.length_take, List.length_drop]; have := HN.out; omega)
              · intro D x w1 bA hI hD hdep hcl hb
                have e0 : bA.tmps[0]?.getD undef = .slice A n c := hb 0
                refine wp_of_run (.slice A n c) (w' := w1) ?_ (hI.val rfl (by simp) (by decide) (by decide) (by decide))
                clear hb hI hdep hcl
                go_simp
              · intro D x w1 bA hI hD hdep hcl hb
                have e5 : bA.tmps[5]?.getD undef = .int .i64 (m : Int) := hb 5
                refine wp_of_run (.int .i64 (m : Int)) (w' := w1) ?_ (hI.val rfl (by simp) (by decide) (by decide) (by decide))
                clear hb hI hdep hcl
                go_simp
              · intro D x w1 bA hI hD hdep hcl hb
                have e69 : bA.tmps[69]?.getD undef = .slice A n c := (hb 69).trans (hI.kn 8 _ rfl (hdep 8 (by decide)))
                have e70 : bA.tmps[70]?.getD undef = .int .i64 (m : Int) := (hb 70).trans (hI.kn 9 _ rfl (hdep 9 (by decide)))
                refine wp_of_run (.slice AU (n - m) (c - m)) (w' := w1) ?_ (hI.val rfl (by simp) (by decide) (by decide) (by decide))
                clear hb hI hdep hcl
                go_simp
              · intro D x w1 bA hI hD hdep hcl hb
                have hp7 : D 7 = true := hdep 7 (by decide)
                have hp4 : D 4 = true := hcl 7 hp7 4 (by decide)
                have hp0 : D 0 = true := hcl 4 hp4 0 (by decide)
                have hq11 : D 11 = false := hD
                have hq12 : D 12 = false := by cases h : D 12 with | false => rfl | true => (have := hcl 12 h 11 (by decide); rw [hq11] at this; cases this)
                have ee1 : bA.tmps[68]?.getD undef = x 7 := hb 68
                have ee2 : bA.tmps[71]?.getD undef = .slice AU (n - m) (c - m) := (hb 71).trans (hI.kn 10 _ rfl (hdep 10 (by decide)))
                exact hI.app elR (.tmp 68) (.tmp 71) 22 22 rfl Tryz.underlying22 Tryz.underlying22 (r := 7) (i := 11) (n := 12) (L := [] ++ l.take m ++ [((t1, t2), t3)]) (ys := l.drop m) (by simp) (by simp) (fun s hs h => by simp only [List.mem_cons, List.not_mem_nil, or_false] at hs; rcases hs with rfl | rfl | rfl | rfl <;> first | rfl | cases h) (fun s hs hne hd => by
                  simp only [List.mem_cons, List.not_mem_nil, or_false] at hs
                  rcases hs with rfl | rfl | rfl | rfl
                  · exact .inr hp4
                  · exact .inr hp7
                  · exact .inl rfl
                  · exact absurd rfl hne) rfl (by decide) (by decide) hq12 hp7 hD (by simpa [Act.eval] using ee1) (by simpa [Act.eval] using ee2) (HL2.out _ hI.bel) (by simp only [List.length_append, List.length_nil, List.length_cons, List.length_take, List.length_drop]; have := HN.out; omega)
              · intro D x w1 bA hI hD hdep hcl hb
                have hp := hdep 11 (by decide)
                refine wp_of_run (x 11) (w' := w1) ?_ (hI.last (g := 11) rfl (by simp) hp hD (by simp) rfl (by decide) (by decide))
                have e72 : bA.tmps[72]?.getD undef = x 11 := hb 72
                clear hb hI hdep hcl
                go_simp
              intro D x w1 hI hall
              have hfin := hI.fin (hall 12 (by simp))
              have hbelF := hI.bel
              have x1e : x 1 = .slice A n c := hI.kn 1 _ rfl (hall 1 (by simp))
              have x2e : x 2 = .int .i64 (m : Int) := hI.kn 2 _ rfl (hall 2 (by simp))
              have x3e : x 3 = .slice A m c := hI.kn 3 _ rfl (hall 3 (by simp))
              have x5e : x 5 = .agg #[.int .i64 t1, .int .i64 t2, .int .i64 t3] := hI.kn 5 _ rfl (hall 5 (by simp))
              have x8e : x 8 = .slice A n c := hI.kn 8 _ rfl (hall 8 (by simp))
              have x9e : x 9 = .int .i64 (m : Int) := hI.kn 9 _ rfl (hall 9 (by simp))
              have x10e : x 10 = .slice AU (n - m) (c - m) := hI.kn 10 _ rfl (hall 10 (by simp))
              simp only [putAll, dstOf, Act.put, List.map_cons, List.map_nil, List.setIfInBounds_toArray, List.set_cons_succ, List.set_cons_zero, Nat.reduceAdd, x1e, x2e, x3e, x5e, x8e, x9e, x10e]
              clear x1e x2e x3e x5e x8e x9e x10e hI hall
              generalize x 12 = xF at hfin ⊢
              have hsl := hfin.sl
              clear hfin
              go_wp2_with fail
              go_meet
              exact ⟨hsl, hbelF⟩
            case rest =>
              obtain ⟨⟨A5, c5, rfl, hx5⟩, hb4⟩ := hcut
              have HSL := Lib.hid (show SlA tB wc (.slice A5 (l.take m ++ [((t1, t2), t3)] ++ l.drop m).length c5) (l.take m ++ [((t1, t2), t3)] ++ l.drop m) from ⟨A5, c5, rfl, hx5⟩)
              have HBC := Lib.hid hb4
              obtain ⟨n5, hn5⟩ : ∃ z, z = (l.take m ++ [((t1, t2), t3)] ++ l.drop m).length := ⟨_, rfl⟩
              rw [← hn5] at HSL ⊢
              clear hx5 hb4 hn5
              go_wp2_with fail
              go_ret
              exact ⟨_, rfl, by rw [HK.out]; exact HSL.out, HB4.out.trans (HBC.out.mono HB4.out.size)⟩
end Go.Proofs.YtbfggncmjdhapaaGreatDoor
