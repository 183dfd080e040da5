/- grid.Rotate. -/
import Derived.Test.YteigjfdgijaifaaDoorZFresh
import Derived.Test.YteigjfdgijaifaaDoorZLawC
import Derived.Test.YteigjfdgijaifaaDoorZRot
namespace Go.Proofs.YteigjfdgijaifaaDoor
open Go.RowKit
set_option linter.unusedVariables false

def mvR (n : Nat) : Int → Int → Bool → Int × Int := fun i x _ => ((n : Int) - 1 - x, i)
theorem relStep_mvR {n m x : Nat} (b : Bool) (i : Nat) (acc : List Int) (h : x + m + 1 = n) : relStep (mvR n) b i (x : Int) acc = acc.set m (i : Int) := by
  unfold relStep mvR
  rw [if_pos (by show (0 : Int) ≤ (n : Int) - 1 - (x : Int); omega), show ((n : Int) - 1 - (x : Int)).toNat = m by omega]
theorem set_rev {acc : List Int} {x m : Nat} (h : x + m + 1 = acc.length) (v : Int) : acc.reverse.set m v = (acc.set x v).reverse := by
  refine List.ext_getElem? fun j => ?_
  by_cases hj : j < acc.length
  · rw [List.getElem?_reverse (by rw [List.length_set]; exact hj), List.length_set, List.getElem?_set, List.getElem?_set, List.length_reverse, List.getElem?_reverse hj]
    by_cases e : m = j
    · subst e
      rw [if_pos rfl, if_pos hj, if_pos (by omega), if_pos (by omega)]
    · rw [if_neg e, if_neg (by omega)]
  · rw [List.getElem?_eq_none (by simp; omega), List.getElem?_eq_none (by simp; omega)]
theorem relTo_rev (n : Nat) (b : Bool) : ∀ (xs acc : List Int) (i : Nat), acc.length = n → (∀ x ∈ xs, 0 ≤ x ∧ x < (n : Int)) → relTo (mvR n) b i xs acc.reverse = (relTo mvT b i xs acc).reverse
  | [], acc, i, _, _ => rfl
  | x :: xs, acc, i, hl, h => by
    obtain ⟨h0, h1⟩ := h x (by simp)
    obtain ⟨x, rfl⟩ := Int.eq_ofNat_of_zero_le h0
    rw [relTo, relTo]
    have e1 : relStep (mvR n) b i (x : Int) acc.reverse = acc.reverse.set (n - 1 - x) (i : Int) := relStep_mvR (x := x) b i _ (by have : (x : Int) < (n : Int) := h1; omega)
    have e2 : relStep mvT b i (x : Int) acc = acc.set x (i : Int) := by
      unfold relStep mvT
      rw [if_pos (by show (0 : Int) ≤ (x : Int); omega)]
      rfl
    have h1' : (x : Int) < (n : Int) := h1
    rw [e1, e2, set_rev (x := x) (by omega)]
    exact relTo_rev n b xs _ (i + 1) (by rw [List.length_set]; exact hl) fun y hy => h y (by simp [hy])
theorem tr_rev {l : List Int} (h : Pm l) : (tr l).reverse = relTo (mvR l.length) true 0 l (List.replicate l.length 0) := by
  have := relTo_rev l.length true l (List.replicate l.length 0) 0 (by simp) fun x hx => h.1 x hx
  rw [List.reverse_replicate] at this
  rw [this]
  rfl
set_option maxHeartbeats 2000000 in
theorem rotate_any (vx vo : Value) (X O : List Int) (w : World) (hX : Ints w vx X) (hO : Ints w vo O) (hv : Vd X O) :
    Calls Tryd.prog 13 #[.agg #[vx, vo]] w fun e w' => ∃ v, e = .returned (.tuple #[v, .int .i64 0]) ∧ NewGrid w.heap.size w' v (tr O).reverse (tr X).reverse ∧ Below w.heap.size w w' := by
  obtain ⟨i0, hi0, hz0, hz1, hz2⟩ := info_parts info_int
  have hn := hv.most
  have hmk := fun W => run_make_one (P := Tryd.prog) 24 3 i0 (.int .i64 0) Tryd.underlying24 hi0 hz0 hz1 rfl (by rw [hz2]; decide) X.length (by omega) W
  clear hi0 hz0 hz1 hz2
  have HL := Lib.hid hv.len
  have HVD := Lib.hid hv
  have hlO : O.length ≤ 40 := by have := hv.len; omega
  have hvb := (validB_iff X O).2 hv
  clear hv
  have hX0 := hX
  have hO0 := hO
  obtain ⟨A, c, rfl, hc, hh⟩ := hX
  obtain ⟨A', c', rfl, hc', hh'⟩ := hO
  clear hh hh'
  go_enter Tryd.func13, Tryd.ntmps13
  go_upto_region 1 with fail
  have hW : Arr ((w.alloc (.cells #[.slice A X.length c, .slice A' O.length c'] 26)).alloc (.cells #[.slice none 0 0, .slice none 0 0] 26)) w.heap.size 26 [.slice A X.length c, .slice A' O.length c'] ∧ Arr ((w.alloc (.cells #[.slice A X.length c, .slice A' O.length c'] 26)).alloc (.cells #[.slice none 0 0, .slice none 0 0] 26)) (w.heap.size + 1) 26 [.slice none 0 0, .slice none 0 0] ∧ Below w.heap.size w ((w.alloc (.cells #[.slice A X.length c, .slice A' O.length c'] 26)).alloc (.cells #[.slice none 0 0, .slice none 0 0] 26)) ∧ ((w.alloc (.cells #[.slice A X.length c, .slice A' O.length c'] 26)).alloc (.cells #[.slice none 0 0, .slice none 0 0] 26)).heap.size = w.heap.size + 2 :=
    ⟨(Arr.new _ _ [_, _]).alloc _, Arr.newAt (w.alloc _) _ [_, _] _ (by simp), ((Below.refl _ _).alloc (Nat.le_refl _) _).alloc (by simp) _, by simp⟩
  generalize ((w.alloc (.cells #[.slice A X.length c, .slice A' O.length c'] 26)).alloc (.cells #[.slice none 0 0, .slice none 0 0] 26)) = w1 at hW ⊢
  obtain ⟨q0, q1, hb1, hs1⟩ := hW
  have y0 := q0.cell 0
  have y1 := q0.cell 1
  have HV := Lib.hid (valid_any _ _ X O _ (hX0.below hb1) (hO0.below hb1) (by omega) (by omega))
  rw [hvb] at HV
  go_wp2_with fail
  refine HV.out.mono ?_
  rintro e w2 ⟨rfl, hb2⟩
  have HW0 := Lib.hid (q0.below hb2 q0.lt)
  have HW1 := Lib.hid (q1.below hb2 q1.lt)
  have hS2 := hb2.size
  rw [hs1] at hS2
  have HS2 := Lib.hid hS2
  have hb2 := hb1.trans (hb2.mono hb1.size)
  clear q0 q1 hb1 hs1 y0 y1 HV hS2 hvb
  have y0 := HW0.out.cell 0
  go_upto_region 4 with fail
  clear y0
  go_cut [5, 15, 17] (fun s4 s10 s12 wx => Mid w.heap.size wx s4 s10 s12 (.slice A X.length c) (.slice A' O.length c') (List.replicate X.length 0) (List.replicate X.length 0) ∧ Below w.heap.size w wx)
  case first =>
    go_region
    all_goals
      go_wp2_with fail
      go_meet
      have hs2 := HS2.out
      have hw0 : w2.heap[w.heap.size]? = some (.cells #[.slice A X.length c, .slice A' O.length c'] 26 (0, 0)) := HW0.out
      have hw1 : w2.heap[w.heap.size + 1]? = some (.cells #[.slice none 0 0, .slice none 0 0] 26 (0, 0)) := HW1.out
      refine ⟨?_, ?_⟩
      rotate_left
      · repeat (first | exact hb2 | refine Below.alloc ?_ (by first | omega | (simp; omega)) _ | refine Below.drew ?_)
      exact mid_of2 w _ _ _ X.length X.length (by simp only [heap_push, heap_drew, Array.getElem?_push, Array.size_push]; repeat (first | rw [if_pos trivial] | rw [if_neg (by omega)] | exact hw0 | exact hw1)) (by simp only [heap_push, heap_drew, Array.getElem?_push, Array.size_push]; repeat (first | rw [if_pos trivial] | rw [if_neg (by omega)] | exact hw0 | exact hw1)) (by simp only [heap_push, heap_drew, Array.getElem?_push, Array.size_push]; repeat (first | rw [if_pos trivial] | rw [if_neg (by omega)] | exact hw0 | exact hw1)) (by simp only [heap_push, heap_drew, Array.getElem?_push, Array.size_push]; repeat (first | rw [if_pos trivial] | rw [if_neg (by omega)] | exact hw0 | exact hw1)) (by simp only [heap_push, heap_drew, Array.getElem?_push, Array.size_push]; repeat (first | rw [if_pos trivial] | rw [if_neg (by omega)] | exact hw0 | exact hw1)) (by omega) (by omega) (by omega) (by omega) (by omega) (by omega)
  case rest =>
    clear hmk
    obtain ⟨⟨g, gx, go, rfl, e14, e16, hm⟩, hb⟩ := hcut
    clear e14 e16
    go_wp2_with fail
    go_loopw [20] (fun i wr => ∃ (k : Nat) (aX aO : List Int), k ≤ X.length ∧ i = .int .i64 k ∧ Mid3 w.heap.size wr g gx go (.slice A X.length c) (.slice A' O.length c') aX aO ∧ Below w.heap.size w wr ∧
      Hid (aX.length = X.length ∧ aO.length = X.length ∧ (tr X).reverse = relTo (mvR X.length) true k (X.drop k) aO ∧ (tr O).reverse = relTo (mvR X.length) true k (O.drop k) aX)) (fun i _ => X.length - (intOf i).toNat)
    case atStart =>
      exact ⟨0, _, _, Nat.zero_le _, rfl, hm, hb, by simp, by simp, tr_rev HVD.out.pX, by rw [tr_rev HVD.out.pO, ← HL.out]; rfl⟩
    case round =>
      obtain ⟨k, aX, aO, hk, rfl, hm', hb', H⟩ := hrel
      clear hb hm
      by_cases hlt : k < X.length
      · obtain ⟨b, o, rfl, hbl, hcell⟩ := hX0.at_ hlt
        have hltO : k < O.length := by have := HL.out; omega
        obtain ⟨b', o', rfl, hbl', hcell'⟩ := hO0.at_ hltO
        have hcX := (hb'.cell (p := ⟨b, o + k, none⟩) hbl).trans hcell
        have rx := HVD.out.pX.1 _ (List.getElem_mem hlt)
        have ro := HVD.out.pO.1 _ (List.getElem_mem hltO)
        rw [relTo_drop (mvR X.length) true X aO hlt, relTo_drop (mvR X.length) true O aX hltO] at H
        generalize X[k] = x at *
        generalize O[k] = y at *
        clear hcell
        obtain ⟨x, rfl⟩ := Int.eq_ofNat_of_zero_le rx.1
        obtain ⟨y, rfl⟩ := Int.eq_ofNat_of_zero_le ro.1
        obtain ⟨p, hp⟩ : ∃ p, x + p + 1 = X.length := ⟨X.length - 1 - x, by have := rx.2; omega⟩
        obtain ⟨q, hq⟩ : ∃ q, y + q + 1 = X.length := ⟨X.length - 1 - y, by have := ro.2; have := HL.out; omega⟩
        rw [relStep_mvR true k aO hp, relStep_mvR true k aX hq] at H
        have hp1 : p < aO.length := by have := H.out.2.1; omega
        have hq1 : q < aX.length := by have := H.out.1; omega
        have w5 := hm'.2.2.2.2.1
        have w6 := hm'.2.2.2.2.2.1
        have n3 := hm'.2.1.symm
        have n4 := hm'.2.2.1.symm
        have n5 : gx ≠ w.heap.size := by omega
        have n6 : go ≠ w.heap.size := by omega
        have n7 : go ≠ b := by omega
        have n10 : gx ≠ b' := by omega
        go_wp2_with fail
        have z0 := hm'.2.2.2.2.2.2.2.2.2.1.cell 0
        have z1 := hm'.2.2.2.2.2.2.1.cell 1
        have z2 := (hm'.2.2.2.2.2.2.2.2.1.cell p).trans (ints_get _ hp1)
        have z3 := hm'.2.2.2.2.2.2.2.2.1.frozen p
        have z5 : (p : Int) < (aO.length : Int) := by omega
        have z6 : (k : Int) < (X.length : Int) := by omega
        have z7 : (k : Int) < (O.length : Int) := by omega
        have z9 : IntKind.i64.wrap ((X.length : Int) - 1) = (X.length : Int) - 1 := IntWalk.i64_in _ (by omega)
        have z8 : IntKind.i64.wrap ((X.length : Int) - 1 - (x : Int)) = (p : Int) := (IntWalk.i64_in _ (by omega)).trans (by omega)
        go_region_held3 (fun w' => w'.cell? ⟨w.heap.size, 0, none⟩ = some (.slice (some ⟨b, o, none⟩) X.length c) ∧ w'.cell? ⟨g, 1, none⟩ = some (.slice (some ⟨go, 0, none⟩) aO.length aO.length) ∧ w'.cell? ⟨b, o + k, none⟩ = some (.int .i64 (x : Int))) (go_keep) (first | fail)
        clear z0 z1 z2 z3 z5 z6 z7 z8 z9
        have hm2 := (hm'.setO p k).drew
        have hb2 := (hb'.setCell (p := ⟨go, p, none⟩) (by show w.heap.size ≤ go; omega) (.int .i64 (k : Int))).drew
        have hcO := (hb2.cell (p := ⟨b', o' + k, none⟩) hbl').trans hcell'
        generalize (wr.setCell ⟨go, p, none⟩ (.int .i64 (k : Int))).drew = wr2 at *
        clear hm' hb' hcX hcell'
        go_wp2_with fail
        have z0 := hm2.2.2.2.2.2.2.2.2.2.1.cell 1
        have z1 := hm2.2.2.2.2.2.2.1.cell 0
        have z2 := (hm2.2.2.2.2.2.2.2.1.cell q).trans (ints_get _ hq1)
        have z3 := hm2.2.2.2.2.2.2.2.1.frozen q
        have z5 : (q : Int) < (aX.length : Int) := by omega
        have z6 : (k : Int) < (X.length : Int) := by omega
        have z7 : (k : Int) < (O.length : Int) := by omega
        have z9 : IntKind.i64.wrap ((X.length : Int) - 1) = (X.length : Int) - 1 := IntWalk.i64_in _ (by omega)
        have z8 : IntKind.i64.wrap ((X.length : Int) - 1 - (y : Int)) = (q : Int) := (IntWalk.i64_in _ (by omega)).trans (by omega)
        go_region_held3 (fun w' => w'.cell? ⟨w.heap.size, 1, none⟩ = some (.slice (some ⟨b', o', none⟩) O.length c') ∧ w'.cell? ⟨g, 0, none⟩ = some (.slice (some ⟨gx, 0, none⟩) aX.length aX.length) ∧ w'.cell? ⟨b', o' + k, none⟩ = some (.int .i64 (y : Int))) (go_keep) (first | fail)
        clear z0 z1 z2 z3 z5 z6 z7 z8 z9
        go_wp2_with fail
        go_roundw
        case rel => exact ⟨k + 1, _, _, by omega, by go_num, (hm2.setX q k).drew, (hb2.setCell (p := ⟨gx, q, none⟩) (by show w.heap.size ≤ gx; omega) _).drew, by simp [H.out.1], by simp [H.out.2.1], H.out.2.2.1, H.out.2.2.2⟩
        case measure => simp [intOf]; omega
      · obtain rfl : k = X.length := by omega
        obtain ⟨hl1, hl2, hr1, hr2⟩ := H.out
        rw [List.drop_length] at hr1
        rw [HL.out, List.drop_length] at hr2
        have hg0 := hm'.2.2.2.2.2.2.1.cell 0
        have hg1 := hm'.2.2.2.2.2.2.1.cell 1
        obtain ⟨e1, e2, e3, e4, e5, e6, q1, q2, q3, q4, a, b, q5⟩ := hm'
        have hz0 := q5.cell 0
        have hz1 := q5.cell 1
        have hz2 := q5.frozen 0
        have hz3 := q5.frozen 1
        have R1 := Lib.hid hr1
        have R2 := Lib.hid hr2
        have hres := Lib.hid ((q5.set 0 (.slice (some ⟨gx, 0, none⟩) aX.length aX.length)).set 1 (.slice (some ⟨go, 0, none⟩) aO.length aO.length))
        clear hr1 hr2 hl1 hl2 q1 q4 q5 hX0 hO0
        go_wp2_with fail
        refine bodyPost_ret (v := .tuple #[.agg #[.slice (some ⟨gx, 0, none⟩) aX.length aX.length, .slice (some ⟨go, 0, none⟩) aO.length aO.length], .int .i64 0]) (results_ct Tryd.results13 _ _ (w.heap.size + 1) 26 _ _ rfl hres.out Tryd.underlying26 rfl info_grid) rfl ⟨_, rfl, ?_, ?_⟩
        · rw [R1.out, R2.out]
          exact ⟨gx, go, rfl, e1, by omega, by omega, q2.far2 (r := w.heap.size + 1) (by omega), q3.far2 (r := w.heap.size + 1) (by omega)⟩
        · exact bset2 (r := w.heap.size + 1) hb' (by omega)
end Go.Proofs.YteigjfdgijaifaaDoor
