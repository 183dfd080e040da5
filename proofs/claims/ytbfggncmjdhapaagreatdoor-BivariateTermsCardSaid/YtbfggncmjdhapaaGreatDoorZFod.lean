/- laurent: integers of 128 bits with a sign. -/
/- Fox derivatives of words: plain. -/
import Derived.Lib.Hide
import Derived.Test.YtbfggncmjdhapaaGreatDoorZPad
import Derived.Test.YtbfggncmjdhapaaGreatDoorShelf
import Derived.Shelf.Spec.BitsCarry
import Derived.Laws.Bits64b
import Derived.Outline
import Derived.Deep.CutBlock
import Derived.Deep.LoopGhost
import Derived.Test.YtbfggncmjdhapaaGreatDoorZBld
namespace Go.Proofs.YtbfggncmjdhapaaGreatDoor
-- part: Wid
section
set_option linter.unusedVariables false

/-- the residue modulo 2^128 -/
def rs (x : Int) : Nat := (x % 340282366920938463463374607431768211456).toNat
theorem rs_lt (x : Int) : rs x < 340282366920938463463374607431768211456 := by unfold rs; omega
def hiN (a : Nat) : Nat := a / 18446744073709551616
def loN (a : Nat) : Nat := a % 18446744073709551616
theorem hiN_lt {a : Nat} (h : a < 340282366920938463463374607431768211456) : hiN a < 18446744073709551616 := by unfold hiN; omega
theorem loN_lt (a : Nat) : loN a < 18446744073709551616 := by unfold loN; omega
theorem rs_0 : rs 0 = 0 := rfl
theorem hiN_0 : hiN (rs 0) = 0 := rfl
theorem loN_0 : loN (rs 0) = 0 := rfl
theorem rs_add (x y : Int) : rs (x + y) = (rs x + rs y) % 340282366920938463463374607431768211456 := by unfold rs; omega
theorem rs_neg (x : Int) : rs (-x) = (340282366920938463463374607431768211456 - rs x) % 340282366920938463463374607431768211456 := by unfold rs; omega
theorem rs_nat {n : Nat} (h : n < 340282366920938463463374607431768211456) : rs (n : Int) = n := by unfold rs; omega
theorem add_lo (x y : Int) : (loN (rs x) + loN (rs y) + 0) % 18446744073709551616 = loN (rs (x + y)) := by
  rw [rs_add]; unfold loN; omega
theorem add_hi (x y : Int) : (hiN (rs x) + hiN (rs y) + (loN (rs x) + loN (rs y) + 0) / 18446744073709551616) % 18446744073709551616 = hiN (rs (x + y)) := by
  have h1 := rs_lt x
  have h2 := rs_lt y
  rw [rs_add]; unfold loN hiN; omega
theorem neg_lo (x : Int) : (0 + 18446744073709551616 - loN (rs x) - 0) % 18446744073709551616 = loN (rs (-x)) := by
  have h1 := rs_lt x
  rw [rs_neg]; unfold loN; omega
theorem neg_hi (x : Int) : (0 + 18446744073709551616 - hiN (rs x) - (if 0 < loN (rs x) + 0 then 1 else 0)) % 18446744073709551616 = hiN (rs (-x)) := by
  have h1 := rs_lt x
  rw [rs_neg]; unfold loN hiN
  split <;> omega
theorem neg_bor (x : Int) : (if 0 < loN (rs x) + 0 then 1 else 0) ≤ 1 := by split <;> omega
theorem add_car (x y : Int) : (loN (rs x) + loN (rs y) + 0) / 18446744073709551616 ≤ 1 := by unfold loN; omega
/-- the sign -/
theorem rs_pos {x : Int} (h0 : 0 ≤ x) (h1 : x < 170141183460469231731687303715884105728) : rs x = x.toNat ∧ hiN (rs x) < 9223372036854775808 := by
  have : rs x = x.toNat := by unfold rs; omega
  rw [this]
  unfold hiN
  omega
theorem rs_negb {x : Int} (h0 : x < 0) (h1 : -170141183460469231731687303715884105728 ≤ x) : 9223372036854775808 ≤ hiN (rs x) ∧ hiN (rs x) < 18446744073709551616 := by
  unfold rs hiN
  omega
/-- a product of magnitudes -/
theorem mag_prod (x y : Int) : (x.natAbs * y.natAbs : Nat) = (x * y).natAbs := (Int.natAbs_mul x y).symm
theorem prod_sign {x y : Int} (h : decide (x < 0) = decide (y < 0)) : ((x * y).natAbs : Int) = x * y := by
  by_cases hx : x < 0
  · have hy : y < 0 := by rw [decide_eq_true hx] at h; exact of_decide_eq_true h.symm
    have := Int.mul_pos_of_neg_of_neg hx hy
    omega
  · have hy : ¬ y < 0 := by rw [decide_eq_false hx] at h; exact of_decide_eq_false h.symm
    have := Int.mul_nonneg (Int.not_lt.1 hx) (Int.not_lt.1 hy)
    omega
theorem prod_nsign {x y : Int} (h : decide (x < 0) ≠ decide (y < 0)) : -((x * y).natAbs : Int) = x * y := by
  by_cases hx : x < 0
  · have hy : ¬ y < 0 := fun hy => h (by rw [decide_eq_true hx, decide_eq_true hy])
    have := Int.mul_nonpos_of_nonpos_of_nonneg (Int.le_of_lt hx) (Int.not_lt.1 hy)
    omega
  · have hy : y < 0 := Classical.byContradiction fun hy => h (by rw [decide_eq_false hx, decide_eq_false hy])
    have := Int.mul_nonpos_of_nonneg_of_nonpos (Int.not_lt.1 hx) (Int.le_of_lt hy)
    omega
theorem prod_bd {x y : Int} (hx : -1125899906842624 ≤ x ∧ x ≤ 1125899906842624) (hy : -1125899906842624 ≤ y ∧ y ≤ 1125899906842624) : (x * y).natAbs ≤ 1267650600228229401496703205376 := by
  rw [Int.natAbs_mul]
  have h := Nat.mul_le_mul (show x.natAbs ≤ 1125899906842624 by omega) (show y.natAbs ≤ 1125899906842624 by omega)
  omega
/-- what small returns -/
def smN (x : Int) : Int := if -1125899906842624 ≤ x ∧ x ≤ 1125899906842624 then x else 0
def smB (x : Int) : Bool := decide (-1125899906842624 ≤ x ∧ x ≤ 1125899906842624)
end
-- part: Wdw
section
open Go.RowKit
set_option linter.unusedVariables false

def carN (x y : Int) : Nat := (loN (rs x) + loN (rs y) + 0) / 18446744073709551616
def borN (x : Int) : Nat := if 0 < loN (rs x) + 0 then 1 else 0
theorem run_addlo (x y : Int) (w : World) : (callFunc 83 #[.int .u64 ((loN (rs x) : Nat) : Int), .int .u64 ((loN (rs y) : Nat) : Int), .int .u64 0]).run Tryz.prog w = .ok (.value (.tuple #[.int .u64 ((loN (rs (x + y)) : Nat) : Int), .int .u64 ((carN x y : Nat) : Int)])) w := by
  have h1 := add_lo x y
  have h2 : carN x y = (loN (rs x) + loN (rs y) + 0) / 18446744073709551616 := rfl
  show (callFunc 83 #[.int .u64 ((loN (rs x) : Nat) : Int), .int .u64 ((loN (rs y) : Nat) : Int), .int .u64 ((0 : Nat) : Int)]).run Tryz.prog w = _
  rw [run_callFunc_extern Tryz.func83 (by kernel_rfl) (by kernel_rfl) (by kernel_rfl) (e := add64Entry) (by kernel_rfl), run_add64 _ _ _ (by omega) (by omega) (by omega) (by omega)]
  have e1 : ((loN (rs x) : Nat) + (loN (rs y) : Nat) + ((0 : Nat) : Int)) % 18446744073709551616 = ((loN (rs (x + y)) : Nat) : Int) := by omega
  have e2 : ((loN (rs x) : Nat) + (loN (rs y) : Nat) + ((0 : Nat) : Int)) / 18446744073709551616 = ((carN x y : Nat) : Int) := by omega
  rw [e1, e2]
  rfl
theorem run_addhi (x y : Int) (w : World) : ∃ u : Int, (callFunc 83 #[.int .u64 ((hiN (rs x) : Nat) : Int), .int .u64 ((hiN (rs y) : Nat) : Int), .int .u64 ((carN x y : Nat) : Int)]).run Tryz.prog w = .ok (.value (.tuple #[.int .u64 ((hiN (rs (x + y)) : Nat) : Int), .int .u64 u])) w := by
  have hc : carN x y ≤ 1 := add_car x y
  have h1 : (hiN (rs x) + hiN (rs y) + carN x y) % 18446744073709551616 = hiN (rs (x + y)) := add_hi x y
  refine ⟨((hiN (rs x) : Nat) + (hiN (rs y) : Nat) + (carN x y : Nat) : Int) / 18446744073709551616, ?_⟩
  rw [run_callFunc_extern Tryz.func83 (by kernel_rfl) (by kernel_rfl) (by kernel_rfl) (e := add64Entry) (by kernel_rfl), run_add64 _ _ _ (by omega) (by omega) (by omega) (by omega)]
  have e1 : ((hiN (rs x) : Nat) + (hiN (rs y) : Nat) + (carN x y : Nat) : Int) % 18446744073709551616 = ((hiN (rs (x + y)) : Nat) : Int) := by omega
  rw [e1]
  rfl
theorem run_neglo (x : Int) (w : World) : (callFunc 104 #[.int .u64 0, .int .u64 ((loN (rs x) : Nat) : Int), .int .u64 0]).run Tryz.prog w = .ok (.value (.tuple #[.int .u64 ((loN (rs (-x)) : Nat) : Int), .int .u64 ((borN x : Nat) : Int)])) w := by
  show (callFunc 104 #[.int .u64 ((0 : Nat) : Int), .int .u64 ((loN (rs x) : Nat) : Int), .int .u64 ((0 : Nat) : Int)]).run Tryz.prog w = _
  rw [run_callFunc_extern Tryz.func104 (by kernel_rfl) (by kernel_rfl) (by kernel_rfl) (e := sub64Entry) (by kernel_rfl), run_sub64 0 _ 0 (by omega)]
  simp only [Result.andThen]
  rw [neg_lo]
  rfl
theorem run_neghi (x : Int) (w : World) : ∃ u : Int, (callFunc 104 #[.int .u64 0, .int .u64 ((hiN (rs x) : Nat) : Int), .int .u64 ((borN x : Nat) : Int)]).run Tryz.prog w = .ok (.value (.tuple #[.int .u64 ((hiN (rs (-x)) : Nat) : Int), .int .u64 u])) w := by
  have hc : borN x ≤ 1 := neg_bor x
  have h1 : (0 + 18446744073709551616 - hiN (rs x) - borN x) % 18446744073709551616 = hiN (rs (-x)) := neg_hi x
  refine ⟨((if 0 < hiN (rs x) + borN x then 1 else 0 : Nat) : Int), ?_⟩
  rw [← h1]
  show (callFunc 104 #[.int .u64 ((0 : Nat) : Int), .int .u64 ((hiN (rs x) : Nat) : Int), .int .u64 ((borN x : Nat) : Int)]).run Tryz.prog w = _
  rw [run_callFunc_extern Tryz.func104 (by kernel_rfl) (by kernel_rfl) (by kernel_rfl) (e := sub64Entry) (by kernel_rfl), run_sub64 0 _ _ hc]
  rfl
theorem info_wide : (Tryz.prog.info? 85).map (·.size) = some 2 := by kernel_rfl
set_option maxHeartbeats 1000000 in
theorem wadd_any (x y : Int) (w : World) :
    Calls Tryz.prog 48 #[.agg #[.int .u64 ((hiN (rs x) : Nat) : Int), .int .u64 ((loN (rs x) : Nat) : Int)], .agg #[.int .u64 ((hiN (rs y) : Nat) : Int), .int .u64 ((loN (rs y) : Nat) : Int)]] w fun e w' => e = .returned (.agg #[.int .u64 ((hiN (rs (x + y)) : Nat) : Int), .int .u64 ((loN (rs (x + y)) : Nat) : Int)]) ∧ Below w.heap.size w w' := by
  have hW : ∀ (c1 c2 c3 c4 : Int) W, W = (((w.alloc (.cells #[.int .u64 c1, .int .u64 c2] 85)).alloc (.cells #[.int .u64 c3, .int .u64 c4] 85)).alloc (.cells #[.int .u64 0, .int .u64 0] 85)) → Arr W w.heap.size 85 [.int .u64 c1, .int .u64 c2] ∧ Arr W (w.heap.size + 1) 85 [.int .u64 c3, .int .u64 c4] ∧ Arr W (w.heap.size + 2) 85 [.int .u64 0, .int .u64 0] ∧ Below w.heap.size w W ∧ W.heap.size = w.heap.size + 3 := by
    intro c1 c2 c3 c4 W hW
    subst hW
    exact ⟨((Arr.new _ _ [_, _]).alloc _).alloc _, (Arr.newAt (w.alloc _) _ [_, _] _ (by simp)).alloc _, Arr.newAt ((w.alloc _).alloc _) _ [_, _] _ (by simp), (((Below.refl _ _).alloc (Nat.le_refl _) _).alloc (by simp) _).alloc (by simp <;> omega) _, by simp⟩
  have HLO := Lib.hid (run_addlo x y)
  have HHI := Lib.hid (run_addhi x y)
  generalize hiN (rs x) = a1 at *
  generalize loN (rs x) = a2 at *
  generalize hiN (rs y) = a3 at *
  generalize loN (rs y) = a4 at *
  generalize hiN (rs (x + y)) = a5 at *
  generalize loN (rs (x + y)) = a6 at *
  generalize carN x y = a7 at *
  replace hW := hW a1 a2 a3 a4
  go_enter Tryz.func48, Tryz.ntmps48
  go_upto_region 1 with fail
  generalize (((w.alloc (.cells #[.int .u64 (a1 : Int), .int .u64 (a2 : Int)] 85)).alloc (.cells #[.int .u64 (a3 : Int), .int .u64 (a4 : Int)] 85)).alloc (.cells #[.int .u64 0, .int .u64 0] 85)) = w3 at hW ⊢
  obtain ⟨qx, qy, qr, hb3, hs3⟩ := hW w3 rfl
  clear hW
  have x0 := qx.cell 0
  have x1 := qx.cell 1
  have y0 := qy.cell 0
  have y1 := qy.cell 1
  have f0 := qr.frozen 0
  have f1 := qr.frozen 1
  have r0 := qr.cell 0
  have r1 := qr.cell 1
  obtain ⟨u, hu⟩ := HHI.out w3
  have hl := HLO.out w3
  have hres := Lib.hid ((qr.set 0 (.int .u64 (a5 : Int))).set 1 (.int .u64 (a6 : Int)))
  have HB := Lib.hid ((hb3.setCell (p := ⟨w.heap.size + 2, 0, none⟩) (by show w.heap.size ≤ w.heap.size + 2; omega) (.int .u64 (a5 : Int))).setCell (p := ⟨w.heap.size + 2, 1, none⟩) (by show w.heap.size ≤ w.heap.size + 2; omega) (.int .u64 (a6 : Int)))
  clear qx qy qr hb3 hs3 HLO HHI
  go_wp2_with fail
  refine bodyPost_ret (v := .agg #[.int .u64 (a5 : Int), .int .u64 (a6 : Int)]) (results_c Tryz.results48 _ _ (w.heap.size + 2) 85 _ _ rfl hres.out Tryz.underlying85 rfl info_wide) rfl ?_
  exact ⟨rfl, HB.out⟩
set_option maxHeartbeats 1000000 in
theorem wneg_any (x : Int) (w : World) :
    Calls Tryz.prog 88 #[.agg #[.int .u64 ((hiN (rs x) : Nat) : Int), .int .u64 ((loN (rs x) : Nat) : Int)]] w fun e w' => e = .returned (.agg #[.int .u64 ((hiN (rs (-x)) : Nat) : Int), .int .u64 ((loN (rs (-x)) : Nat) : Int)]) ∧ Below w.heap.size w w' := by
  have hW : ∀ (c1 c2 : Int) W, W = ((w.alloc (.cells #[.int .u64 c1, .int .u64 c2] 85)).alloc (.cells #[.int .u64 0, .int .u64 0] 85)) → Arr W w.heap.size 85 [.int .u64 c1, .int .u64 c2] ∧ Arr W (w.heap.size + 1) 85 [.int .u64 0, .int .u64 0] ∧ Below w.heap.size w W ∧ W.heap.size = w.heap.size + 2 := by
    intro c1 c2 W hW
    subst hW
    exact ⟨(Arr.new _ _ [_, _]).alloc _, Arr.newAt (w.alloc _) _ [_, _] _ (by simp), ((Below.refl _ _).alloc (Nat.le_refl _) _).alloc (by simp) _, by simp⟩
  have HLO := Lib.hid (run_neglo x)
  have HHI := Lib.hid (run_neghi x)
  generalize hiN (rs x) = a1 at *
  generalize loN (rs x) = a2 at *
  generalize hiN (rs (-x)) = a5 at *
  generalize loN (rs (-x)) = a6 at *
  generalize borN x = a7 at *
  replace hW := hW a1 a2
  go_enter Tryz.func88, Tryz.ntmps88
  go_upto_region 1 with fail
  generalize ((w.alloc (.cells #[.int .u64 (a1 : Int), .int .u64 (a2 : Int)] 85)).alloc (.cells #[.int .u64 0, .int .u64 0] 85)) = w3 at hW ⊢
  obtain ⟨qx, qr, hb3, hs3⟩ := hW w3 rfl
  clear hW
  have x0 := qx.cell 0
  have x1 := qx.cell 1
  have f0 := qr.frozen 0
  have f1 := qr.frozen 1
  have r0 := qr.cell 0
  have r1 := qr.cell 1
  obtain ⟨u, hu⟩ := HHI.out w3
  have hl := HLO.out w3
  have hres := Lib.hid ((qr.set 0 (.int .u64 (a5 : Int))).set 1 (.int .u64 (a6 : Int)))
  have HB := Lib.hid ((hb3.setCell (p := ⟨w.heap.size + 1, 0, none⟩) (by show w.heap.size ≤ w.heap.size + 1; omega) (.int .u64 (a5 : Int))).setCell (p := ⟨w.heap.size + 1, 1, none⟩) (by show w.heap.size ≤ w.heap.size + 1; omega) (.int .u64 (a6 : Int)))
  clear qx qr hb3 hs3 HLO HHI
  go_wp2_with fail
  refine bodyPost_ret (v := .agg #[.int .u64 (a5 : Int), .int .u64 (a6 : Int)]) (results_c Tryz.results88 _ _ (w.heap.size + 1) 85 _ _ rfl hres.out Tryz.underlying85 rfl info_wide) rfl ?_
  exact ⟨rfl, HB.out⟩
set_option maxHeartbeats 1000000 in
theorem magnitude_any (v : Int) (w : World) (h0 : -4611686018427387904 ≤ v) (h1 : v ≤ 4611686018427387904) :
    Calls Tryz.prog 85 #[.int .i64 v] w fun e w' => e = .returned (.int .u64 ((v.natAbs : Nat) : Int)) ∧ w = w' := by
  by_cases hv : v < 0
  · have e1 : IntKind.u64.wrap v = v + 18446744073709551616 := by rw [IntKind.wrap_u64]; omega
    have e2 : IntKind.u64.wrap (-(v + 18446744073709551616)) = ((v.natAbs : Nat) : Int) := by rw [IntKind.wrap_u64]; omega
    go_enter Tryz.func85, Tryz.ntmps85
    go_wp2_with fail
    go_ret
    exact ⟨rfl, rfl⟩
  · have e1 : IntKind.u64.wrap v = ((v.natAbs : Nat) : Int) := by rw [IntKind.wrap_u64]; omega
    go_enter Tryz.func85, Tryz.ntmps85
    go_wp2_with fail
    go_ret
    exact ⟨rfl, rfl⟩
/-- the result of product and small, under one name -/
def bigN (x y : Int) : Nat := x.natAbs * y.natAbs
theorem bigN_hi {x y : Int} : ((x.natAbs * y.natAbs / 18446744073709551616 : Nat) : Int) = ((hiN (bigN x y) : Nat) : Int) := rfl
theorem bigN_rs {x y : Int} (h : bigN x y < 340282366920938463463374607431768211456) : rs ((bigN x y : Nat) : Int) = bigN x y := rs_nat h
theorem bigN_same {x y : Int} (h : decide (x < 0) = decide (y < 0)) : ((bigN x y : Nat) : Int) = x * y := by unfold bigN; rw [mag_prod]; exact prod_sign h
theorem bigN_diff {x y : Int} (h : decide (x < 0) ≠ decide (y < 0)) : -((bigN x y : Nat) : Int) = x * y := by unfold bigN; rw [mag_prod]; exact prod_nsign h
set_option maxHeartbeats 1000000 in
theorem product_any (x y : Int) (w : World) (hx : -1125899906842624 ≤ x ∧ x ≤ 1125899906842624) (hy : -1125899906842624 ≤ y ∧ y ≤ 1125899906842624) :
    Calls Tryz.prog 54 #[.int .i64 x, .int .i64 y] w fun e w' => e = .returned (.agg #[.int .u64 ((hiN (rs (x * y)) : Nat) : Int), .int .u64 ((loN (rs (x * y)) : Nat) : Int)]) ∧ Below w.heap.size w w' := by
  have hbd : bigN x y < 340282366920938463463374607431768211456 := by
    have h := prod_bd hx hy
    unfold bigN; rw [mag_prod]; omega
  have hrs := bigN_rs hbd
  have HM := Lib.hid (fun W => Tryz.bits_Mul64 x.natAbs y.natAbs (by omega) (by omega) W)
  have HMX := Lib.hid (fun W => magnitude_any x W (by omega) (by omega))
  have HMY := Lib.hid (fun W => magnitude_any y W (by omega) (by omega))
  have HN := Lib.hid (fun W => wneg_any ((bigN x y : Nat) : Int) W)
  rw [hrs] at HN
  have HS := Lib.hid (fun h => show bigN x y = rs (x * y) by rw [← bigN_same (x := x) (y := y) h, hrs])
  have HD := Lib.hid (fun h => show rs (-((bigN x y : Nat) : Int)) = rs (x * y) by rw [bigN_diff (x := x) (y := y) h])
  have hW : ∀ (c1 c2 : Int) (t : TypeId) W, W = ((w.alloc (.cells #[.int .u64 0, .int .u64 0] 85)).alloc (.cells #[.int .u64 c1, .int .u64 c2] 85)) → Arr W w.heap.size 85 [.int .u64 0, .int .u64 0] ∧ Arr W (w.heap.size + 1) 85 [.int .u64 c1, .int .u64 c2] ∧ Below w.heap.size w W ∧ W.heap.size = w.heap.size + 2 := by
    intro c1 c2 t W hW
    subst hW
    exact ⟨(Arr.new _ _ [_, _]).alloc _, Arr.newAt (w.alloc _) _ [_, _] _ (by simp), ((Below.refl _ _).alloc (Nat.le_refl _) _).alloc (by simp) _, by simp⟩
  clear hrs hbd
  go_enter Tryz.func54, Tryz.ntmps54
  go_wp2_with fail
  refine (HMX.out _).mono ?_
  rintro e w1 ⟨rfl, rfl⟩
  go_wp2_with fail
  refine (HMY.out _).mono ?_
  rintro e w1 ⟨rfl, rfl⟩
  go_wp2_with fail
  refine (HM.out _).mono ?_
  rintro e w1 ⟨rfl, rfl⟩
  clear HM HMX HMY
  rw [bigN_hi]
  have e1 : ((x.natAbs * y.natAbs % 18446744073709551616 : Nat) : Int) = ((loN (bigN x y) : Nat) : Int) := rfl
  rw [e1]
  clear e1
  go_upto_region 3 with fail
  obtain ⟨BN, hBN⟩ : ∃ B, B = bigN x y := ⟨_, rfl⟩
  rw [← hBN] at HN HS HD ⊢
  clear hBN
  have HH := Lib.hid (hW ((hiN BN : Nat) : Int) ((loN BN : Nat) : Int))
  clear hW
  have HH2 := Lib.hid (HH.out 0 _ rfl)
  clear HH
  generalize ((w.alloc (.cells #[.int .u64 0, .int .u64 0] 85)).alloc (.cells #[.int .u64 ((hiN BN : Nat) : Int), .int .u64 ((loN BN : Nat) : Int)] 85)) = w3 at HH2 ⊢
  obtain ⟨qr, qx, hb3, hs3⟩ := HH2.out
  clear HH2
  have x0 := qx.cell 0
  have x1 := qx.cell 1
  by_cases hs : decide (x < 0) = decide (y < 0)
  · have HRS := Lib.hid (HS.out hs)
    have z1 : (decide (x < 0) != decide (y < 0)) = false := by rw [hs]; simp
    have z2 : (decide (x < 0) == decide (y < 0)) = true := by rw [hs]; simp
    have f0 := qr.frozen 0
    have f1 := qr.frozen 1
    have r0 := qr.cell 0
    have r1 := qr.cell 1
    have hres := Lib.hid ((qr.set 0 (.int .u64 ((hiN BN : Nat) : Int))).set 1 (.int .u64 ((loN BN : Nat) : Int)))
    have HB := Lib.hid ((hb3.setCell (p := ⟨w.heap.size, 0, none⟩) (Nat.le_refl _) (.int .u64 ((hiN BN : Nat) : Int))).setCell (p := ⟨w.heap.size, 1, none⟩) (Nat.le_refl _) (.int .u64 ((loN BN : Nat) : Int)))
    clear HS HD HN hs hs3 hb3 qr qx
    go_wp2_with fail
    refine bodyPost_ret (v := .agg #[.int .u64 ((hiN BN : Nat) : Int), .int .u64 ((loN BN : Nat) : Int)]) (results_c Tryz.results54 _ _ w.heap.size 85 _ _ rfl hres.out Tryz.underlying85 rfl info_wide) rfl ?_
    exact ⟨by rw [HRS.out], HB.out⟩
  · have HRS := Lib.hid (HD.out hs)
    have z1 : (decide (x < 0) != decide (y < 0)) = true := by simp [hs]
    have z2 : (decide (x < 0) == decide (y < 0)) = false := by simp [hs]
    have HN3 := Lib.hid (HN.out w3)
    rw [HRS.out] at HN3
    have HQ := Lib.hid qr
    have HB3 := Lib.hid hb3
    clear HS HD HN hs hs3 hb3 qr qx HRS
    go_wp2_with fail
    refine HN3.out.mono ?_
    rintro e w4 ⟨rfl, hb4⟩
    have qr := HQ.out.below hb4 HQ.out.lt
    have hb5 := HB3.out.trans (hb4.mono HB3.out.size)
    have f0 := qr.frozen 0
    have f1 := qr.frozen 1
    have r0 := qr.cell 0
    have r1 := qr.cell 1
    have hres := Lib.hid ((qr.set 0 (.int .u64 ((hiN (rs (x * y)) : Nat) : Int))).set 1 (.int .u64 ((loN (rs (x * y)) : Nat) : Int)))
    have HB := Lib.hid ((hb5.setCell (p := ⟨w.heap.size, 0, none⟩) (Nat.le_refl _) (.int .u64 ((hiN (rs (x * y)) : Nat) : Int))).setCell (p := ⟨w.heap.size, 1, none⟩) (Nat.le_refl _) (.int .u64 ((loN (rs (x * y)) : Nat) : Int)))
    clear qr hb4 hb5 HN3 x0 x1
    go_wp2_with fail
    refine bodyPost_ret (v := .agg #[.int .u64 ((hiN (rs (x * y)) : Nat) : Int), .int .u64 ((loN (rs (x * y)) : Nat) : Int)]) (results_c Tryz.results54 _ _ w.heap.size 85 _ _ rfl hres.out Tryz.underlying85 rfl info_wide) rfl ?_
    exact ⟨rfl, HB.out⟩
end
-- part: Wsm
section
open Go.RowKit
set_option linter.unusedVariables false

theorem info_u64 : (Tryz.prog.info? 83).map (·.size) = some 1 := by kernel_rfl
set_option maxHeartbeats 1000000 in
theorem wsplit_any (x : Int) (w : World) (h0 : -170141183460469231731687303715884105728 < x) (h1 : x < 170141183460469231731687303715884105728) :
    Calls Tryz.prog 84 #[.agg #[.int .u64 ((hiN (rs x) : Nat) : Int), .int .u64 ((loN (rs x) : Nat) : Int)]] w fun e w' => e = .returned (.tuple #[.agg #[.int .u64 ((hiN x.natAbs : Nat) : Int), .int .u64 ((loN x.natAbs : Nat) : Int)], .bool (decide (x < 0))]) ∧ Below w.heap.size w w' := by
  have hW : ∀ (c1 c2 : Int) W, W = ((w.alloc (.cells #[.int .u64 c1, .int .u64 c2] 85)).alloc (.cells #[.int .u64 0, .int .u64 0] 85)) → Arr W w.heap.size 85 [.int .u64 c1, .int .u64 c2] ∧ Arr W (w.heap.size + 1) 85 [.int .u64 0, .int .u64 0] ∧ Below w.heap.size w W ∧ W.heap.size = w.heap.size + 2 := by
    intro c1 c2 W hW
    subst hW
    exact ⟨(Arr.new _ _ [_, _]).alloc _, Arr.newAt (w.alloc _) _ [_, _] _ (by simp), ((Below.refl _ _).alloc (Nat.le_refl _) _).alloc (by simp) _, by simp⟩
  have HN := Lib.hid (fun W => wneg_any x W)
  by_cases hx : x < 0
  · have hr : rs (-x) = x.natAbs := by rw [(rs_pos (x := -x) (by omega) (by omega)).1]; omega
    obtain ⟨g1, g2⟩ := rs_negb hx (Int.le_of_lt h0)
    have z1 : (((hiN (rs x) : Nat) : Int) / 9223372036854775808 == 1) = true := by rw [beq_iff_eq]; omega
    rw [hr] at HN
    rw [decide_eq_true hx]
    clear h0 h1 hr hx g1 g2
    generalize hiN (rs x) = a1 at *
    generalize loN (rs x) = a2 at *
    generalize hiN x.natAbs = a5 at *
    generalize loN x.natAbs = a6 at *
    replace hW := hW a1 a2
    go_enter Tryz.func84, Tryz.ntmps84
    go_upto_region 1 with fail
    generalize ((w.alloc (.cells #[.int .u64 (a1 : Int), .int .u64 (a2 : Int)] 85)).alloc (.cells #[.int .u64 0, .int .u64 0] 85)) = w3 at hW ⊢
    obtain ⟨qx, qr, hb3, hs3⟩ := hW w3 rfl
    clear hW
    have x0 := qx.cell 0
    have x1 := qx.cell 1
    have HN3 := Lib.hid (HN.out w3)
    have HQ := Lib.hid qr
    have HB3 := Lib.hid hb3
    clear HN qx qr hb3 hs3
    go_wp2_with fail
    refine HN3.out.mono ?_
    rintro e w4 ⟨rfl, hb4⟩
    have qr := HQ.out.below hb4 HQ.out.lt
    have hb3 := HB3.out.trans (hb4.mono HB3.out.size)
    clear x0 x1 hb4 HN3
    have f0 := qr.frozen 0
    have f1 := qr.frozen 1
    have r0 := qr.cell 0
    have r1 := qr.cell 1
    have hres := Lib.hid ((qr.set 0 (.int .u64 (a5 : Int))).set 1 (.int .u64 (a6 : Int)))
    have HB := Lib.hid ((hb3.setCell (p := ⟨w.heap.size + 1, 0, none⟩) (by show w.heap.size ≤ w.heap.size + 1; omega) (.int .u64 (a5 : Int))).setCell (p := ⟨w.heap.size + 1, 1, none⟩) (by show w.heap.size ≤ w.heap.size + 1; omega) (.int .u64 (a6 : Int)))
    clear qr hb3
    go_wp2_with fail
    refine bodyPost_ret (v := .tuple #[.agg #[.int .u64 (a5 : Int), .int .u64 (a6 : Int)], .bool true]) (results_ct Tryz.results84 _ _ (w.heap.size + 1) 85 _ _ rfl hres.out Tryz.underlying85 rfl info_wide) rfl ?_
    exact ⟨rfl, HB.out⟩
  · obtain ⟨hr, g1⟩ := rs_pos (x := x) (by omega) h1
    have hr2 : rs x = x.natAbs := by omega
    have z1 : (((hiN (rs x) : Nat) : Int) / 9223372036854775808 == 1) = false := by rw [beq_eq_false_iff_ne]; omega
    rw [decide_eq_false hx]
    rw [hr2] at z1 ⊢
    clear h0 h1 hr hx g1 HN hr2
    generalize hiN x.natAbs = a1 at *
    generalize loN x.natAbs = a2 at *
    replace hW := hW a1 a2
    go_enter Tryz.func84, Tryz.ntmps84
    go_upto_region 1 with fail
    generalize ((w.alloc (.cells #[.int .u64 (a1 : Int), .int .u64 (a2 : Int)] 85)).alloc (.cells #[.int .u64 0, .int .u64 0] 85)) = w3 at hW ⊢
    obtain ⟨qx, qr, hb3, hs3⟩ := hW w3 rfl
    clear hW
    have x0 := qx.cell 0
    have x1 := qx.cell 1
    have f0 := qr.frozen 0
    have f1 := qr.frozen 1
    have r0 := qr.cell 0
    have r1 := qr.cell 1
    have hres := Lib.hid ((qr.set 0 (.int .u64 (a1 : Int))).set 1 (.int .u64 (a2 : Int)))
    have HB := Lib.hid ((hb3.setCell (p := ⟨w.heap.size + 1, 0, none⟩) (by show w.heap.size ≤ w.heap.size + 1; omega) (.int .u64 (a1 : Int))).setCell (p := ⟨w.heap.size + 1, 1, none⟩) (by show w.heap.size ≤ w.heap.size + 1; omega) (.int .u64 (a2 : Int)))
    clear qr hb3
    go_wp2_with fail
    refine bodyPost_ret (v := .tuple #[.agg #[.int .u64 (a1 : Int), .int .u64 (a2 : Int)], .bool false]) (results_ct Tryz.results84 _ _ (w.heap.size + 1) 85 _ _ rfl hres.out Tryz.underlying85 rfl info_wide) rfl ?_
    exact ⟨rfl, HB.out⟩
theorem hiN_small {a : Nat} (h : a ≤ 1125899906842624) : hiN a = 0 ∧ loN a = a := by unfold hiN loN; omega
theorem hiN_great {a : Nat} (h : 1125899906842624 < a) : hiN a ≠ 0 ∨ (hiN a = 0 ∧ 1125899906842624 < loN a) := by unfold hiN loN; omega
set_option maxHeartbeats 1000000 in
theorem small_any (x : Int) (w : World) (h0 : -170141183460469231731687303715884105728 < x) (h1 : x < 170141183460469231731687303715884105728) :
    Calls Tryz.prog 49 #[.agg #[.int .u64 ((hiN (rs x) : Nat) : Int), .int .u64 ((loN (rs x) : Nat) : Int)]] w fun e w' => e = .returned (.tuple #[.int .i64 (smN x), .bool (smB x)]) ∧ Below w.heap.size w w' := by
  have hW : ∀ (c1 c2 : Int) W, W = (w.alloc (.cells #[.int .u64 c1, .int .u64 c2] 85)) → Arr W w.heap.size 85 [.int .u64 c1, .int .u64 c2] ∧ Below w.heap.size w W ∧ W.heap.size = w.heap.size + 1 := by
    intro c1 c2 W hW
    subst hW
    exact ⟨(Arr.new _ _ [_, _]), ((Below.refl _ _).alloc (Nat.le_refl _) _), by simp⟩
  have HSP := Lib.hid (fun W => wsplit_any x W h0 h1)
  have HCS := Lib.hid (show (x.natAbs ≤ 1125899906842624 ∧ hiN x.natAbs = 0 ∧ loN x.natAbs = x.natAbs ∧ smN x = x ∧ smB x = true) ∨ (hiN x.natAbs ≠ 0 ∧ smN x = 0 ∧ smB x = false) ∨ (hiN x.natAbs = 0 ∧ 1125899906842624 < loN x.natAbs ∧ smN x = 0 ∧ smB x = false) by
    by_cases h : x.natAbs ≤ 1125899906842624
    · have := hiN_small h
      have h2 : -1125899906842624 ≤ x ∧ x ≤ 1125899906842624 := by omega
      exact .inl ⟨h, this.1, this.2, by unfold smN; rw [if_pos h2], decide_eq_true h2⟩
    · have h2 : ¬ (-1125899906842624 ≤ x ∧ x ≤ 1125899906842624) := by omega
      have h3 : smN x = 0 ∧ smB x = false := ⟨by unfold smN; rw [if_neg h2], decide_eq_false h2⟩
      rcases hiN_great (Nat.lt_of_not_le h) with q | q
      · exact .inr (.inl ⟨q, h3⟩)
      · exact .inr (.inr ⟨q.1, q.2, h3⟩))
  have HXA := Lib.hid (show (x < 0 → -((x.natAbs : Nat) : Int) = x) ∧ (0 ≤ x → ((x.natAbs : Nat) : Int) = x) from ⟨fun _ => by omega, fun _ => by omega⟩)
  clear h0 h1
  generalize hiN (rs x) = a1 at *
  generalize loN (rs x) = a2 at *
  replace hW := hW a1 a2
  go_enter Tryz.func49, Tryz.ntmps49
  go_upto_region 1 with fail
  generalize (w.alloc (.cells #[.int .u64 (a1 : Int), .int .u64 (a2 : Int)] 85)) = w3 at hW ⊢
  obtain ⟨qx, hb3, hs3⟩ := hW w3 rfl
  clear hW
  have x0 := qx.cell 0
  have x1 := qx.cell 1
  have HSP3 := Lib.hid (HSP.out w3)
  have HB3 := Lib.hid hb3
  clear HSP qx hb3 hs3
  go_wp2_with fail
  refine HSP3.out.mono ?_
  rintro e w4 ⟨rfl, hb4⟩
  have HB4 := Lib.hid (HB3.out.trans (hb4.mono HB3.out.size))
  clear hb4 HSP3 x0 x1 HB3
  rcases HCS.out with ⟨g1, g2, g3, g4, g5⟩ | ⟨g1, g2, g3⟩ | ⟨g1, g2, g3, g4⟩
  · have HG4 := Lib.hid g4
    have HG5 := Lib.hid g5
    rw [g2, g3]
    clear g2 g3 g4 g5 HCS
    by_cases hx : x < 0
    · have HE := Lib.hid (HXA.out.1 hx)
      have zx : decide (x < 0) = true := decide_eq_true hx
      clear HXA
      generalize x.natAbs = a at *
      go_wp2_with fail
      go_ret2
      exact ⟨by rw [HG4.out, HG5.out, ← HE.out]; rfl, HB4.out.alloc HB4.out.size _⟩
    · have HE := Lib.hid (HXA.out.2 (by omega))
      have zx : decide (x < 0) = false := decide_eq_false hx
      clear HXA
      generalize x.natAbs = a at *
      go_wp2_with fail
      go_ret2
      exact ⟨by rw [HG4.out, HG5.out, ← HE.out]; rfl, HB4.out.alloc HB4.out.size _⟩
  · have HG4 := Lib.hid g2
    have HG5 := Lib.hid g3
    have z1 : (((hiN x.natAbs : Nat) : Int) != 0) = true := by simp; omega
    have z2 : (((hiN x.natAbs : Nat) : Int) == 0) = false := by simp; omega
    clear g1 g2 g3 HCS HXA
    go_wp2_with fail
    go_ret2
    exact ⟨by rw [HG4.out, HG5.out]; rfl, HB4.out.alloc HB4.out.size _⟩
  · have HG4 := Lib.hid g3
    have HG5 := Lib.hid g4
    rw [g1]
    have z1 : (1125899906842624 : Int) < ((loN x.natAbs : Nat) : Int) := by omega
    clear g1 g2 g3 g4 HCS HXA
    go_wp2_with fail
    go_ret2
    exact ⟨by rw [HG4.out, HG5.out]; rfl, HB4.out.alloc HB4.out.size _⟩
end
end Go.Proofs.YtbfggncmjdhapaaGreatDoor

namespace Go.Proofs.YtbfggncmjdhapaaGreatDoor
set_option linter.unusedVariables false

/-- degree of the generator of a letter -/
def cg (comp : List Int) (k : Int) : Int := comp[k.toNat]?.getD 0
def stepD (comp : List Int) (d x : Int) : Int := if 0 < x then d + cg comp (x - 1) else d - cg comp (-x - 1)
def degW (comp : List Int) : List Int → Int → Int
  | [], d => d
  | x :: w, d => degW comp w (stepD comp d x)
/-- the term of a letter, and its generator -/
def trm (comp : List Int) (d x : Int) : Int × Int := if 0 < x then (d, 1) else (d - cg comp (-x - 1), -1)
def gnr (x : Int) : Int := if 0 < x then x - 1 else -x - 1
/-- the terms of the derivative with respect to a generator, in order -/
def drv (comp : List Int) (g : Int) : List Int → Int → List (Int × Int)
  | [], _ => []
  | x :: w, d => (if gnr x = g then [trm comp d x] else []) ++ drv comp g w (stepD comp d x)
theorem drv_append (comp : List Int) (g : Int) (u v : List Int) (d : Int) : drv comp g (u ++ v) d = drv comp g u d ++ drv comp g v (degW comp u d) := by
  induction u generalizing d with
  | nil => rfl
  | cons x u ih => rw [List.cons_append, drv, drv, ih, List.append_assoc]; rfl
theorem degW_append (comp : List Int) (u v : List Int) (d : Int) : degW comp (u ++ v) d = degW comp v (degW comp u d) := by
  induction u generalizing d with
  | nil => rfl
  | cons x u ih => rw [List.cons_append, degW, degW, ih]
theorem stepD_add (comp : List Int) (d k x : Int) : stepD comp (d + k) x = stepD comp d x + k := by unfold stepD; split <;> omega
theorem degW_add (comp : List Int) (u : List Int) (d k : Int) : degW comp u (d + k) = degW comp u d + k := by
  induction u generalizing d with
  | nil => rfl
  | cons x u ih => rw [degW, degW, stepD_add, ih]
theorem degW_zero (comp : List Int) (u : List Int) (d : Int) : degW comp u d = degW comp u 0 + d := by
  have := degW_add comp u 0 d
  rwa [Int.zero_add] at this
theorem trm_add (comp : List Int) (d k x : Int) : trm comp (d + k) x = ((trm comp d x).1 + k, (trm comp d x).2) := by
  unfold trm
  split
  · rfl
  · show (d + k - _, -1) = (d - _ + k, -1)
    congr 1; omega
theorem cf_map_add (l : List (Int × Int)) (k e : Int) : cf (l.map fun t => (t.1 + k, t.2)) e = cf l (e - k) := by
  induction l with
  | nil => rfl
  | cons t l ih =>
    rw [List.map_cons, cf_cons, cf_cons, ih]
    by_cases h : t.1 + k = e
    · rw [if_pos h, if_pos (by omega)]
    · rw [if_neg h, if_neg (by omega)]
theorem drv_shift (comp : List Int) (g : Int) (w : List Int) (d k : Int) : drv comp g w (d + k) = (drv comp g w d).map fun t => (t.1 + k, t.2) := by
  induction w generalizing d with
  | nil => rfl
  | cons x w ih =>
    rw [drv, drv, stepD_add, ih, List.map_append, trm_add]
    congr 1
    split <;> rfl
/-- the derivative as a function -/
def dF (comp : List Int) (g : Int) (w : List Int) (e : Int) : Int := cf (drv comp g w 0) e
theorem cf_drv (comp : List Int) (g : Int) (w : List Int) (d e : Int) : cf (drv comp g w d) e = dF comp g w (e - d) := by
  have h := drv_shift comp g w 0 d
  rw [Int.zero_add] at h
  rw [h, cf_map_add]; rfl
def dg (comp : List Int) (w : List Int) : Int := degW comp w 0
theorem dF_append (comp : List Int) (g : Int) (u v : List Int) (e : Int) : dF comp g (u ++ v) e = dF comp g u e + dF comp g v (e - dg comp u) := by
  have h := cf_drv comp g v (degW comp u 0) e
  unfold dF dg at *
  rw [drv_append, cf_append, h]
theorem dg_append (comp : List Int) (u v : List Int) : dg comp (u ++ v) = dg comp u + dg comp v := by
  unfold dg; rw [degW_append, degW_zero]; omega
theorem dF_nil (comp : List Int) (g e : Int) : dF comp g [] e = 0 := rfl
theorem dg_nil (comp : List Int) : dg comp [] = 0 := rfl
theorem dF_one (comp : List Int) (g x e : Int) : dF comp g [x] e = if gnr x = g then (if 0 < x then (if e = 0 then 1 else 0) else (if e = - cg comp (-x - 1) then -1 else 0)) else 0 := by
  unfold dF
  rw [drv, drv, List.append_nil]
  split
  · rw [cf_one]
    unfold trm
    split
    · show (if (0 : Int) = e then (1 : Int) else 0) = _
      by_cases h : e = 0
      · rw [if_pos h, if_pos h.symm]
      · rw [if_neg h, if_neg (fun k => h k.symm)]
    · show (if (0 - cg comp (-x - 1) : Int) = e then (-1 : Int) else 0) = _
      by_cases h : e = - cg comp (-x - 1)
      · rw [if_pos h, if_pos (by omega)]
      · rw [if_neg h, if_neg (by omega)]
  · rfl
theorem dg_one (comp : List Int) (x : Int) : dg comp [x] = if 0 < x then cg comp (x - 1) else - cg comp (-x - 1) := by
  show stepD comp 0 x = _
  unfold stepD
  split <;> omega
/-- x behind its inverse -/
theorem dg_inv (comp : List Int) {x : Int} (hx : x ≠ 0) : dg comp [-x] = - dg comp [x] := by
  rw [dg_one, dg_one]
  by_cases h : 0 < x
  · rw [if_neg (by omega), if_pos h, Int.neg_neg]
  · rw [if_pos (by omega), if_neg h, Int.neg_neg]
theorem dF_pair (comp : List Int) (g : Int) {x : Int} (hx : x ≠ 0) (e : Int) : dF comp g [x, -x] e = 0 := by
  rw [show [x, -x] = [x] ++ [-x] from rfl, dF_append, dF_one, dF_one, dg_one]
  have hg : gnr (-x) = gnr x := by unfold gnr; split <;> split <;> omega
  rw [hg]
  by_cases hgg : gnr x = g
  · rw [if_pos hgg, if_pos hgg]
    by_cases h : 0 < x
    · have hn : ¬ 0 < -x := by omega
      simp only [h, hn, if_true, if_false, Int.neg_neg]
      split <;> split <;> omega
    · have hn : 0 < -x := by omega
      simp only [h, hn, if_true, if_false]
      split <;> split <;> omega
  · rw [if_neg hgg, if_neg hgg]; rfl
/-- pushing a letter onto a reduced word -/
def psh (s : List Int) (x : Int) : List Int := if s.getLast? = some (-x) then s.dropLast else s ++ [x]
theorem getLast_form {s : List Int} {y : Int} (h : s.getLast? = some y) : s = s.dropLast ++ [y] := by
  obtain ⟨r, rfl⟩ := List.getLast?_eq_some_iff.1 h
  simp
theorem dF_psh (comp : List Int) (g : Int) (s : List Int) {x : Int} (hx : x ≠ 0) (e : Int) : dF comp g (psh s x) e = dF comp g (s ++ [x]) e := by
  unfold psh
  split
  · next h =>
    have h1 := getLast_form h
    have h2 : s ++ [x] = s.dropLast ++ [-x, x] := by
      conv => lhs; rw [h1]
      rw [List.append_assoc]; rfl
    have h3 := dF_pair comp g (x := -x) (by omega)
    rw [Int.neg_neg] at h3
    rw [h2, dF_append, h3]; omega
  · rfl
theorem dg_psh (comp : List Int) (s : List Int) {x : Int} (hx : x ≠ 0) : dg comp (psh s x) = dg comp (s ++ [x]) := by
  unfold psh
  split
  · next h =>
    have h1 := getLast_form h
    have h2 : s ++ [x] = s.dropLast ++ ([-x] ++ [x]) := by
      conv => lhs; rw [h1]
      rw [List.append_assoc]
    rw [h2, dg_append, dg_append, dg_inv comp hx]; omega
  · rfl
/-- pushing letters -/
def pshL (s l : List Int) : List Int := l.foldl psh s
theorem pshL_cons (s : List Int) (x : Int) (l : List Int) : pshL s (x :: l) = pshL (psh s x) l := rfl
theorem pshL_snoc (s l : List Int) (x : Int) : pshL s (l ++ [x]) = psh (pshL s l) x := by unfold pshL; rw [List.foldl_append]; rfl
theorem dgF_pshL (comp : List Int) (g : Int) : ∀ (l s : List Int), (∀ x ∈ l, x ≠ 0) → dg comp (pshL s l) = dg comp (s ++ l) ∧ ∀ e, dF comp g (pshL s l) e = dF comp g (s ++ l) e
  | [], s, _ => by rw [List.append_nil]; exact ⟨rfl, fun _ => rfl⟩
  | x :: l, s, h => by
    have hx := h x (List.mem_cons_self ..)
    obtain ⟨h1, h2⟩ := dgF_pshL comp g l (psh s x) (fun y hy => h y (List.mem_cons_of_mem _ hy))
    have e1 : s ++ x :: l = (s ++ [x]) ++ l := by rw [List.append_assoc]; rfl
    rw [pshL_cons]
    refine ⟨?_, fun e => ?_⟩
    · rw [h1, dg_append, dg_psh comp s hx, e1, dg_append comp (s ++ [x]) l]
    · rw [h2, dF_append, dF_psh comp g s hx, dg_psh comp s hx, e1, dF_append comp g (s ++ [x]) l]
/-- the inverse word -/
def invW (w : List Int) : List Int := (w.map fun x => -x).reverse
theorem invW_cons (x : Int) (w : List Int) : invW (x :: w) = invW w ++ [-x] := by unfold invW; rw [List.map_cons, List.reverse_cons]
theorem invW_ne {w : List Int} (h : ∀ x ∈ w, x ≠ 0) : ∀ x ∈ invW w, x ≠ 0 := fun x hx => by
  unfold invW at hx
  rw [List.mem_reverse, List.mem_map] at hx
  obtain ⟨y, hy, rfl⟩ := hx
  have := h y hy; omega
theorem w_invW (comp : List Int) (g : Int) : ∀ (w : List Int), (∀ x ∈ w, x ≠ 0) → dg comp (w ++ invW w) = 0 ∧ ∀ e, dF comp g (w ++ invW w) e = 0
  | [], _ => ⟨rfl, fun _ => rfl⟩
  | x :: w, h => by
    have hx := h x (List.mem_cons_self ..)
    obtain ⟨h1, h2⟩ := w_invW comp g w (fun y hy => h y (List.mem_cons_of_mem _ hy))
    have e1 : (x :: w) ++ invW (x :: w) = [x] ++ ((w ++ invW w) ++ [-x]) := by rw [invW_cons]; simp
    have e2 : [x] ++ [-x] = [x, -x] := rfl
    rw [e1]
    refine ⟨?_, fun e => ?_⟩
    · rw [dg_append, dg_append, h1, dg_inv comp hx]; omega
    · have h3 := dF_pair comp g hx e
      rw [← e2, dF_append] at h3
      rw [dF_append, dF_append, h2, h1]
      rw [Int.sub_zero]; omega
theorem dF_invW (comp : List Int) (g : Int) {w : List Int} (h : ∀ x ∈ w, x ≠ 0) (e : Int) : dF comp g (invW w) e = - dF comp g w (e + dg comp w) := by
  have h1 := (w_invW comp g w h).2 (e + dg comp w)
  rw [dF_append] at h1
  rw [show e + dg comp w - dg comp w = e by omega] at h1
  omega
theorem dg_invW (comp : List Int) {w : List Int} (h : ∀ x ∈ w, x ≠ 0) : dg comp (invW w) = - dg comp w := by
  have h1 := (w_invW comp 0 w h).1
  rw [dg_append] at h1; omega
/-- bounds -/
theorem drv_len (comp : List Int) (g : Int) (w : List Int) (d : Int) : (drv comp g w d).length ≤ w.length := by
  induction w generalizing d with
  | nil => exact Nat.le_refl _
  | cons x w ih =>
    rw [drv, List.length_append, List.length_cons]
    have := ih (stepD comp d x)
    split <;> simp <;> omega
theorem cg_bd {comp : List Int} {N : Int} (hN : 0 ≤ N) (h : ∀ c ∈ comp, -N ≤ c ∧ c ≤ N) (k : Int) : -N ≤ cg comp k ∧ cg comp k ≤ N := by
  unfold cg
  cases hc : comp[k.toNat]? with
  | none => show -N ≤ 0 ∧ 0 ≤ N; omega
  | some c => exact h c (List.mem_of_getElem? hc)
theorem drv_bd {comp : List Int} {N : Int} (hN : 0 ≤ N) (h : ∀ c ∈ comp, -N ≤ c ∧ c ≤ N) (g : Int) (w : List Int) : ∀ (d : Int) (t : Int × Int), t ∈ drv comp g w d → (t.2 = 1 ∨ t.2 = -1) ∧ d - N * w.length ≤ t.1 ∧ t.1 ≤ d + N * w.length := by
  induction w with
  | nil => intro d t ht; cases ht
  | cons x w ih =>
    intro d t ht
    have e1 : N * ((x :: w).length : Int) = N * w.length + N := by rw [List.length_cons, Int.natCast_add, Int.mul_add]; simp
    have hm : 0 ≤ N * (w.length : Int) := Int.mul_nonneg hN (by omega)
    rw [drv] at ht
    rw [e1]
    rcases List.mem_append.1 ht with ht | ht
    · split at ht
      · rw [List.mem_singleton.1 ht]
        have h2 := cg_bd hN h (-x - 1)
        unfold trm
        split
        · exact ⟨.inl rfl, by show d - _ ≤ d; omega, by show d ≤ _; omega⟩
        · exact ⟨.inr rfl, by show d - _ ≤ d - cg comp _; omega, by show d - cg comp _ ≤ _; omega⟩
      · cases ht
    · have h1 := ih _ t ht
      have h2 := cg_bd hN h (x - 1)
      have h3 := cg_bd hN h (-x - 1)
      have h4 : d - N ≤ stepD comp d x ∧ stepD comp d x ≤ d + N := by unfold stepD; split <;> omega
      omega
end Go.Proofs.YtbfggncmjdhapaaGreatDoor
