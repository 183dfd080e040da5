/- The reference's Components (layer 42). -/
import Derived.Test.YteliflcbegcdlaaGreatDoorWwRcp
import Derived.Test.YteliflcbegcdlaaGreatDoorWwGcol
import Derived.Test.YteliflcbegcdlaaGreatDoorWwBase2
import Derived.KernelRfl
import Derived.OwnWalk
namespace Go.Proofs.YteliflcbegcdlaaGreatDoor
open Go.RowKit
set_option linter.unusedVariables false
/-- numbers as cells -/
def ncQ (l : List Nat) : List Value := l.map fun (k : Nat) => Value.int .i64 (k : Int)
theorem ncQ_get {l : List Nat} {k : Nat} (h : k < l.length) : (ncQ l)[k]? = some (.int .i64 (gq l k : Nat)) := by
  unfold ncQ gq; rw [List.getElem?_map, List.getElem?_eq_getElem h]; rfl
theorem ncQ_set (l : List Nat) (k x : Nat) : (ncQ l).set k (.int .i64 (x : Nat)) = ncQ (l.set k x) := by
  unfold ncQ; rw [List.map_set]
/-- the list of the first k numbers, then zeros -/
def uptoQ (n k : Nat) : List Nat := (List.range n).map fun i => if i < k then i else 0
theorem uptoQ_zero (n : Nat) : ncQ (uptoQ n 0) = List.replicate n (.int .i64 0) := by
  apply List.ext_getElem?
  intro i
  unfold ncQ uptoQ
  simp [List.getElem?_replicate]
  by_cases h : i < n <;> simp [h]
theorem uptoQ_all (n : Nat) : uptoQ n n = List.range n := by
  apply List.ext_getElem?
  intro i
  unfold uptoQ
  simp
  by_cases h : i < n <;> simp [h]
theorem uptoQ_step {n k : Nat} (h : k < n) : (uptoQ n k).set k k = uptoQ n (k + 1) := by
  apply List.ext_getElem?
  intro i
  unfold uptoQ
  rw [List.getElem?_set]
  by_cases e : k = i
  · subst e; simp [h]
  · simp [e]
    by_cases hi : i < n <;> simp [hi]
    split <;> split <;> omega
theorem uptoQ_length (n k : Nat) : (uptoQ n k).length = n := by simp [uptoQ]
theorem bset2q {B i j : Nat} {a w : World} {u v : Value} (h : Below B a w) : Below B a ((w.setCell ⟨B + 1, i, none⟩ u).setCell ⟨B + 1, j, none⟩ v) := bset2 (r := B + 1) h (by omega)
theorem farq {B i j : Nat} {w : World} {t : TypeId} {cs : List Value} {u v : Value} (h : Arr w B t cs) : Arr ((w.setCell ⟨B + 1, i, none⟩ u).setCell ⟨B + 1, j, none⟩ v) B t cs := h.far2 (r := B + 1) (by omega)
theorem quietQ {P : Program} {f : FuncId} {args : Array Value} {w : World} {n : Nat} {v : Value} (h : Calls P f args (w.drewN n) fun e w' => e = .returned v ∧ w.drewN n = w') : Calls P f args (w.drewN n) fun e w'' => e = .returned v ∧ ∃ m, w'' = w.drewN m :=
  h.mono fun _ _ hh => ⟨hh.1, n, hh.2.symm⟩
theorem fC_col {X O : List Int} (h : Vd X O) {i : Nat} (hi : i < X.length) : (if gt O i ∈ X then (X.idxOf (gt O i) : Int) else -1) = (fC X O i : Int) := by
  have h1 := fC_spec h hi
  rw [if_pos]
  · rfl
  · rw [← h1.2, gt_get h1.1]; exact List.getElem_mem h1.1
set_option maxHeartbeats 4000000 in
set_option maxRecDepth 100000 in
theorem refComponents_any (vx vo : Value) (X O : List Int) (w : World) (hX : Ints w vx X) (hO : Ints w vo O) (hv : Vd X O) :
    Calls Tryz.prog 9 #[.agg #[vx, vo]] w fun e w' => e = .returned (.int .i64 (comp X O : Nat)) ∧ Below w.heap.size w w' := by
  obtain ⟨i0, hi0, hz0, hz1, hz2⟩ := info_parts info_int
  have h40 := hv.most
  have hmk := fun W => run_make_one (P := Tryz.prog) 22 3 i0 (.int .i64 0) Tryz.underlying22 hi0 hz0 hz1 rfl (by rw [hz2]; decide) X.length (by omega) W
  clear hi0 hz0 hz1 hz2
  have hPF := Lib.hid (fC_perm hv)
  have HFN := Lib.hid (fun i (hi : i < X.length) => fC_ne hv hi)
  have HFL := Lib.hid (fun i (hi : i < X.length) => (fC_spec hv hi).1)
  have HFC := Lib.hid (fun i (hi : i < X.length) => fC_col hv hi)
  have HCO := Lib.hid (fun W (hb : Below w.heap.size w W) y => column_any vx X y W (hX.below hb) (by omega))
  have hO0 := hO
  have hlen := hv.len
  clear hv
  obtain ⟨A, c, rfl, hc, hh⟩ := hX
  obtain ⟨A', c', rfl, hc', hh'⟩ := hO
  have HGO := Lib.hid (fun W (hb : Below w.heap.size w W) i (hi : i < X.length) => (show ∃ b o, A' = some ⟨b, o, none⟩ ∧ W.cell? ⟨b, o + i, none⟩ = some (.int .i64 (gt O i)) by
    have hi' : i < O.length := by omega
    obtain ⟨b, o, hA, hbl, hcell⟩ := (hO0.below hb).at_ hi'
    exact ⟨b, o, hA, by rw [gt_get hi']; exact hcell⟩))
  clear hh hh' hO0
  obtain ⟨n, hn⟩ : ∃ n, n = X.length := ⟨_, rfl⟩
  obtain ⟨f, hf⟩ : ∃ f, f = fC X O := ⟨_, rfl⟩
  have HCM := Lib.hid (show comp X O = cls f n by rw [hf, hn]; rfl)
  rw [← hf] at hPF HFN HFL HFC
  rw [← hlen]
  rw [← hn] at h40 hmk hPF HFN HFL HFC HCO HGO ⊢
  clear hn hf hlen hc hc'
  go_enter Tryz.func9, Tryz.ntmps9
  go_upto_region 1 with fail
  have hal := (Below.refl w.heap.size w).alloc (Nat.le_refl _) (.cells #[.slice A n c, .slice A' n c'] 24)
  have q1 : Arr (w.alloc (.cells #[.slice A n c, .slice A' n c'] 24)) w.heap.size 24 [.slice A n c, .slice A' n c'] := Arr.newAt w _ [_, _] _ rfl
  have hs1 : (w.alloc (.cells #[.slice A n c, .slice A' n c'] 24)).heap.size = w.heap.size + 1 := by simp
  generalize w.alloc (.cells #[.slice A n c, .slice A' n c'] 24) = w1 at hal q1 hs1 ⊢
  have y0 := q1.cell 0
  go_wp2_with fail
  have hW : Arr (w1.alloc (.cells (rowOf (List.replicate n (Value.int .i64 0))) 3)) (w.heap.size + 1) 3 (ncQ (uptoQ n 0)) ∧ Below w.heap.size w (w1.alloc (.cells (rowOf (List.replicate n (Value.int .i64 0))) 3)) ∧ Arr (w1.alloc (.cells (rowOf (List.replicate n (Value.int .i64 0))) 3)) w.heap.size 24 [.slice A n c, .slice A' n c'] :=
    ⟨by rw [uptoQ_zero]; exact Arr.newAt w1 _ _ _ hs1.symm, hal.alloc hal.size _, q1.alloc _⟩
  clear hmk y0
  generalize w1.alloc (.cells (rowOf (List.replicate n (Value.int .i64 0))) 3) = w4 at hW ⊢
  obtain ⟨a0, hb4, q4⟩ := hW
  clear q1 hal hs1
  obtain ⟨B, hB⟩ : ∃ B, B = w.heap.size := ⟨_, rfl⟩
  rw [← hB] at a0 hb4 q4 HCO HGO ⊢
  have HB0 := Lib.hid hB
  clear hB
  have hB4 := Lib.hid hb4
  have hq4 := Lib.hid q4
  clear hb4 q4
  go_loopw [4] (fun i wr => ∃ k : Nat, k ≤ n ∧ i = .int .i64 (k : Int) ∧ Arr wr (B + 1) 3 (ncQ (uptoQ n k)) ∧ Hid (Below B w wr) ∧ Hid (Arr wr B 24 [.slice A n c, .slice A' n c'])) (fun i _ => n - (intOf i).toNat)
  case atStart => exact ⟨0, Nat.zero_le _, rfl, a0, hB4, hq4⟩
  case round =>
    clear a0 hB4 hq4
    obtain ⟨k, hk, rfl, a0, HB, HQ⟩ := hrel
    by_cases hlt : k < n
    · have z1 : (k : Int) < (n : Int) := by omega
      have zc := (a0.cell k).trans (ncQ_get (by rw [uptoQ_length]; exact hlt))
      have zf := a0.frozen k
      go_wp2_with fail
      go_roundw
      case rel => exact ⟨k + 1, by omega, by go_num, by rw [← uptoQ_step hlt, ← ncQ_set]; exact a0.set k _, Lib.hid (HB.out.setCell (p := ⟨B + 1, k, none⟩) (by show B ≤ B + 1; omega) _), Lib.hid (HQ.out.far (p := ⟨B + 1, k, none⟩) (by show B ≠ B + 1; omega) _)⟩
      case measure => simp [intOf]; omega
    · have a1 : Arr wr (B + 1) 3 (ncQ (labC f n 0)) := by
        have hkn : k = n := by omega
        rw [hkn, uptoQ_all] at a0; exact a0
      obtain rfl : k = n := by omega
      clear a0
      go_wp2_with fail
      obtain ⟨wo, hwo⟩ : ∃ W, W = wr := ⟨_, rfl⟩
      clear hwo
      go_loopw [5] (fun i wr => ∃ t : Nat, t ≤ k ∧ i = .int .i64 (t : Int) ∧ Arr wr (B + 1) 3 (ncQ (labC f k t)) ∧ Hid (Below B w wr) ∧ Hid (Arr wr B 24 [.slice A k c, .slice A' k c'])) (fun i _ => k - (intOf i).toNat)
      case atStart => exact ⟨0, Nat.zero_le _, rfl, a1, HB, HQ⟩
      case round =>
        clear a1 HB HQ
        obtain ⟨t, ht, rfl, a1, HB, HQ⟩ := hrel
        by_cases hlt2 : t < k
        · have z1 : (t : Int) < (k : Int) := by omega
          go_wp2_with fail
          obtain ⟨wo2, hwo2⟩ : ∃ W, W = wr := ⟨_, rfl⟩
          clear hwo2
          have a2 : Arr wr (B + 1) 3 (ncQ (passC f (labC f k t) 0)) := a1
          clear a1
          go_loopw [6] (fun i wr => ∃ j : Nat, j ≤ k ∧ i = .int .i64 (j : Int) ∧ Arr wr (B + 1) 3 (ncQ (passC f (labC f k t) j)) ∧ Hid (Below B w wr) ∧ Hid (Arr wr B 24 [.slice A k c, .slice A' k c'])) (fun i _ => k - (intOf i).toNat)
          case atStart => exact ⟨0, Nat.zero_le _, rfl, a2, HB, HQ⟩
          case round =>
            clear a2 HB HQ
            obtain ⟨j, hj, rfl, a1, HB, HQ⟩ := hrel
            by_cases hlt3 : j < k
            · have z2 : (j : Int) < (k : Int) := by omega
              obtain ⟨b, o, rfl, hcell⟩ := HGO.out _ HB.out j hlt3
              have hln : (passC f (labC f k t) j).length = k := by rw [passC_length, labC_length]
              have hst := Lib.hid (show passC f (labC f k t) (j + 1) = opC f (passC f (labC f k t) j) j from rfl)
              have hjr : ¬ j = f j := fun e => HFN.out j hlt3 e.symm
              have hrj : ¬ f j = j := HFN.out j hlt3
              have b2 := HFL.out j hlt3
              have HCW := Lib.hid (fun m => HCO.out (wr.drewN m) (bdrewN HB.out m) (gt O j))
              rw [HFC.out j hlt3] at HCW
              rw [opC] at hst
              generalize passC f (labC f k t) j = l at *
              generalize gt O j = y at *
              generalize f j = r at *
              have y0 := HQ.out.cell 0
              have y1 := HQ.out.cell 1
              have c1 := (a1.cell j).trans (ncQ_get (by omega))
              have c2 := (a1.cell r).trans (ncQ_get (by omega))
              have f1 := a1.frozen j
              have f2 := a1.frozen r
              have z3 : (r : Int) < (k : Int) := by omega
              have dm : min (gq l j : Int) (gq l r : Int) = ((min (gq l j) (gq l r) : Nat) : Int) := by omega
              generalize gq l j = x at *
              generalize gq l r = u at *
              go_upto_region 12 with fail
              go_quiet ((go_at_call 22; exact quietQ (HCW.out _)))
              clear HCW
              by_cases hyx : u < x
              · have hy' : ¬ (x ≤ u) := by omega
                clear dm
                go_upto_region 13 with fail
                go_quiet (fail)
                go_wp2_with fail
                go_roundw
                case rel => exact ⟨j + 1, by omega, by go_num, by rw [hst.out, Nat.min_eq_right (Nat.le_of_lt hyx), ← ncQ_set, ← ncQ_set]; exact ((a1.drewN _).set j _).set r _, Lib.hid (bset2q (bdrewN HB.out _)), Lib.hid (farq (HQ.out.drewN _))⟩
                case measure => simp [intOf]; omega
              · have hy' : x ≤ u := by omega
                clear dm
                go_upto_region 13 with fail
                go_quiet (fail)
                go_wp2_with fail
                go_roundw
                case rel => exact ⟨j + 1, by omega, by go_num, by rw [hst.out, Nat.min_eq_left hy', ← ncQ_set, ← ncQ_set]; exact ((a1.drewN _).set j _).set r _, Lib.hid (bset2q (bdrewN HB.out _)), Lib.hid (farq (HQ.out.drewN _))⟩
                case measure => simp [intOf]; omega
            · have a3 : Arr wr (B + 1) 3 (ncQ (labC f k (t + 1))) := by
                have e : j = k := by omega
                rw [e] at a1; exact a1
              clear a1
              go_wp2_with fail
              go_roundw
              case rel => exact ⟨t + 1, by omega, by go_num, a3, HB, HQ⟩
              case measure => simp [intOf]; omega
        · obtain rfl : t = k := by omega
          go_wp2_with fail
          obtain ⟨wo3, hwo3⟩ : ∃ W, W = wr := ⟨_, rfl⟩
          clear hwo3
          go_loopw [9, 10] (fun vn i wr => ∃ j : Nat, j ≤ t ∧ i = .int .i64 (j : Int) ∧ vn = .int .i64 (hdC f t j : Nat) ∧ Arr wr (B + 1) 3 (ncQ (labC f t t)) ∧ Hid (Below B w wr)) (fun _ i _ => t - (intOf i).toNat)
          case atStart => exact ⟨0, Nat.zero_le _, rfl, rfl, a1, HB⟩
          case round =>
            clear a1 HB HQ
            obtain ⟨j, hj, rfl, rfl, a1, HB⟩ := hrel
            by_cases hlt4 : j < t
            · have z2 : (j : Int) < (t : Int) := by omega
              have c1 := (a1.cell j).trans (ncQ_get (by rw [labC_length]; exact hlt4))
              have hle := hdC_le (f := f) (n := t) j
              by_cases he : gq (labC f t t) j = j
              · have hs := Lib.hid (show hdC f t (j + 1) = hdC f t j + 1 by rw [hdC_step, if_pos he])
                have z3 : ((gq (labC f t t) j : Int) == (j : Int)) = true := by rw [he]; simp
                clear he
                go_wp2_with fail
                go_roundw
                case rel => exact ⟨j + 1, by omega, by go_num, by rw [hs.out]; go_num, a1, HB⟩
                case measure => simp [intOf]; omega
              · have hs := Lib.hid (show hdC f t (j + 1) = hdC f t j by rw [hdC_step, if_neg he]; rfl)
                have z3 : ((gq (labC f t t) j : Int) == (j : Int)) = false := by
                  rw [beq_eq_false_iff_ne]; omega
                clear he
                go_wp2_with fail
                go_roundw
                case rel => exact ⟨j + 1, by omega, by go_num, by rw [hs.out], a1, HB⟩
                case measure => simp [intOf]; omega
            · obtain rfl : j = t := by omega
              have hc := Lib.hid (show comp X O = hdC f j j by rw [HCM.out, hdC_all hPF.out])
              go_wp2_with fail
              go_ret
              exact ⟨by rw [hc.out]; rfl, by rw [← HB0.out]; exact HB.out⟩
end Go.Proofs.YteliflcbegcdlaaGreatDoor
