/- word.Exponents. -/
import Derived.Test.YtlbihllmpbhhcaaDoorAug
namespace Go.Proofs.YtlbihllmpbhhcaaDoor
open Go.RowKit
set_option linter.unusedVariables false

def expL (n : Nat) (ws : List Int) : List Int := (List.range n).map fun (k : Nat) => expo (k : Int) ws
theorem expL_len (n : Nat) (ws : List Int) : (expL n ws).length = n := by unfold expL; simp
theorem expL_get (n : Nat) (ws : List Int) (k : Nat) (h : k < n) : (expL n ws)[k]? = some (expo (k : Int) ws) := by unfold expL; rw [List.getElem?_map, List.getElem?_range h]; rfl
theorem expL_snoc (n : Nat) (ws : List Int) (x : Int) (i : Nat) (hg : gnr x = (i : Int)) (hi : i < n) : (expL n (ws ++ [x])).map (Value.int .i64) = ((expL n ws).map (Value.int .i64)).set i (.int .i64 (expo (i : Int) ws + (if 0 < x then 1 else -1))) := by
  apply List.ext_getElem?
  intro k
  rw [List.getElem?_set]
  by_cases hk : k < n
  · rw [List.getElem?_map, expL_get n _ k hk]
    by_cases e : i = k
    · subst e
      rw [if_pos rfl, if_pos (by rw [List.length_map, expL_len]; exact hi)]
      show some (Value.int .i64 (expo (i : Int) (ws ++ [x]))) = _
      rw [expo_snoc, if_pos hg]
    · rw [if_neg e, List.getElem?_map, expL_get n _ k hk]
      show some (Value.int .i64 (expo (k : Int) (ws ++ [x]))) = some (Value.int .i64 (expo (k : Int) ws))
      rw [expo_snoc, if_neg (by omega), Int.add_zero]
  · rw [List.getElem?_eq_none (by rw [List.length_map, expL_len]; omega), if_neg (by omega), List.getElem?_eq_none (by rw [List.length_map, expL_len]; omega)]
theorem expL_zero (n : Nat) : (expL n []).map (Value.int .i64) = List.replicate n (.int .i64 0) := by
  apply List.ext_getElem?
  intro k
  by_cases hk : k < n
  · rw [List.getElem?_map, expL_get n _ k hk, List.getElem?_replicate, if_pos hk]; rfl
  · rw [List.getElem?_eq_none (by rw [List.length_map, expL_len]; omega), List.getElem?_eq_none (by simp; omega)]
set_option maxHeartbeats 2000000 in
set_option maxRecDepth 100000 in
theorem Exponents_any (vw : Value) (ws : List Int) (rank : Nat) (w : World) (hw : Ints w vw ws) (hl : ws.length ≤ 1000000) (hr : rank ≤ 1000000) (hx : ∀ x ∈ ws, x ≠ 0 ∧ x ≤ rank ∧ -(rank : Int) ≤ x) :
    Calls Tryd.prog 29 #[vw, .int .i64 (rank : Int)] w fun e w' => ∃ v, e = .returned (.tuple #[v, .int .i64 0]) ∧ Ints w' v (expL rank ws) ∧ Below w.heap.size w w' := by
  have HWV := Lib.hid (wvalid_any vw ws rank w hw (by omega) (by omega))
  have hval : vldW ws rank = true := vldW_iff.2 fun x hxm => by have := hx x hxm; exact ⟨by omega, this.1, this.2.1, this.2.2⟩
  rw [hval] at HWV
  clear hval
  have HW := Lib.hid hw
  have HX := Lib.hid hx
  obtain ⟨A, c, rfl, _, _⟩ := hw
  clear hx
  obtain ⟨i0, hi0, hz0, hz1, hz2⟩ := info_parts info_int
  have hmk := run_make_one (P := Tryd.prog) 22 3 i0 (.int .i64 0) Tryd.underlying22 hi0 hz0 hz1 rfl (by omega) rank (by omega) w
  have hA := Arr.new w 3 (List.replicate rank (.int .i64 0))
  rw [← expL_zero] at hA
  have hB : Below w.heap.size w (w.alloc (.cells (rowOf (List.replicate rank (.int .i64 0))) 3)) := (Below.refl _ _).alloc (Nat.le_refl _) _
  have hmx : max (rank : Int) 0 = (rank : Int) := by omega
  rw [expL_zero] at hA
  have HA := Lib.hid hA
  clear hA hi0 hz0 hz1 hz2
  go_enter Tryd.func29, Tryd.ntmps29
  go_wp2_with fail
  refine HWV.out.mono ?_
  rintro e w1 ⟨rfl, rfl⟩
  clear HWV
  go_upto_region 4 with fail
  have hz : decide ((67108864 : Int) < (rank : Int)) = false := by simp; omega
  obtain ⟨w4, hw4⟩ : ∃ W, W = w.alloc (.cells (rowOf (List.replicate rank (.int .i64 0))) 3) := ⟨_, rfl⟩
  have hst : Arr w4 w.heap.size 3 ((expL rank []).map (Value.int .i64)) ∧ Below w.heap.size w w4 := by
    rw [hw4, expL_zero]
    exact ⟨HA.out, hB⟩
  rw [← hw4]
  clear hw4 hB hmk HA hmx hz
  go_wp2_with fail
  go_loopg [8, 22] ws.length (fun gk s8 s22 wr => ∃ k : Nat, k ≤ ws.length ∧ gk = ws.length - k ∧ s22 = .int .i64 (k : Int) ∧ Arr wr w.heap.size 3 ((expL rank (ws.take k)).map (Value.int .i64)) ∧ Below w.heap.size w wr)
  case atStart => exact ⟨0, Nat.zero_le _, rfl, rfl, hst.1, hst.2⟩
  case round =>
    clear hst
    obtain ⟨k, hk, rfl, rfl, hq, hbr⟩ := hrel
    by_cases hlt : k < ws.length
    · have z1 : (k : Int) < (ws.length : Int) := by omega
      obtain ⟨b, o, ⟨c', hv⟩, hbl, hcell0⟩ := ints_at HW.out hlt
      injection hv with hv1 hv2 hv3
      subst hv1 hv3
      clear hv2
      have hcell := (hbr.cell (p := ⟨b, o + k, none⟩) hbl).trans hcell0
      have hxk := HX.out ws[k] (List.getElem_mem hlt)
      have HT := Lib.hid (take_snocI hlt)
      clear hcell0
      generalize ws[k] = x at *
      have hb1 := expo_bd
      by_cases hp : x > 0
      · obtain ⟨i, hi⟩ : ∃ i : Nat, x - 1 = (i : Int) := ⟨(x - 1).toNat, by omega⟩
        have hir : i < rank := by omega
        have z2 : (i : Int) < (rank : Int) := by omega
        have HS := Lib.hid (expL_snoc rank (ws.take k) x i (by unfold gnr; rw [if_pos hp]; exact hi) hir)
        rw [if_pos hp] at HS
        have hb2 := hb1 (i : Int) (ws.take k)
        have hb3 : (ws.take k).length ≤ 1000000 := by simp; omega
        have y0 : wr.cell? ⟨w.heap.size, i, none⟩ = some (.int .i64 (expo (i : Int) (ws.take k))) := by rw [hq.cell, List.getElem?_map, expL_get rank _ i hir]; rfl
        have f0 := hq.frozen i
        have HQ := Lib.hid (hq.set i (.int .i64 (expo (i : Int) (ws.take k) + 1)))
        have HB := Lib.hid (hbr.setCell (p := ⟨w.heap.size, i, none⟩) (Nat.le_refl _) (.int .i64 (expo (i : Int) (ws.take k) + 1)))
        generalize expo (i : Int) (ws.take k) = ev at *
        clear hb1 hq hbr
        go_wp2_with fail
        go_roundg (ws.length - (k + 1))
        case measure => omega
        case rel => exact ⟨k + 1, by omega, rfl, by go_num, by rw [HT.out, HS.out]; exact HQ.out, HB.out⟩
      · obtain ⟨i, hi⟩ : ∃ i : Nat, -x - 1 = (i : Int) := ⟨(-x - 1).toNat, by omega⟩
        have hir : i < rank := by omega
        have z2 : (i : Int) < (rank : Int) := by omega
        have HS := Lib.hid (expL_snoc rank (ws.take k) x i (by unfold gnr; rw [if_neg hp]; exact hi) hir)
        rw [if_neg hp] at HS
        have hb2 := hb1 (i : Int) (ws.take k)
        have hb3 : (ws.take k).length ≤ 1000000 := by simp; omega
        have y0 : wr.cell? ⟨w.heap.size, i, none⟩ = some (.int .i64 (expo (i : Int) (ws.take k))) := by rw [hq.cell, List.getElem?_map, expL_get rank _ i hir]; rfl
        have f0 := hq.frozen i
        have HQ := Lib.hid (hq.set i (.int .i64 (expo (i : Int) (ws.take k) + -1)))
        have HB := Lib.hid (hbr.setCell (p := ⟨w.heap.size, i, none⟩) (Nat.le_refl _) (.int .i64 (expo (i : Int) (ws.take k) + -1)))
        generalize expo (i : Int) (ws.take k) = ev at *
        have hsub : ev - 1 = ev + -1 := by omega
        clear hb1 hq hbr
        go_wp2_with fail
        go_roundg (ws.length - (k + 1))
        case measure => omega
        case rel => exact ⟨k + 1, by omega, rfl, by go_num, by rw [HT.out, HS.out]; exact HQ.out, HB.out⟩
    · have z1 : ¬ (k : Int) < (ws.length : Int) := by omega
      rw [List.take_of_length_le (by omega)] at hq
      have HQ := Lib.hid hq
      have HBR := Lib.hid hbr
      clear hq hbr
      go_wp2_with fail
      go_ret2
      refine ⟨_, rfl, ?_, HBR.out⟩
      have := Ints.of_arr HQ.out
      rw [expL_len] at this
      exact this
end Go.Proofs.YtlbihllmpbhhcaaDoor
