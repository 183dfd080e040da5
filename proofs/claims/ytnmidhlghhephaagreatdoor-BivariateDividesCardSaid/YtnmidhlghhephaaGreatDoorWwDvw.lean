/- laurent: integers of 128 bits with a sign. -/
/- laurent's wide integers: widen, zero, quotient by 1. -/
import Derived.Lib.Hide
import Derived.Test.YtnmidhlghhephaaGreatDoorWwPsu
import Derived.Test.YtnmidhlghhephaaGreatDoorWwShelf
import Derived.Shelf.Spec.BitsCarry
import Derived.Laws.Bits64b
import Derived.Outline
import Derived.Deep.CutBlock
import Derived.Deep.LoopGhost
import Derived.Deep.QuietTactic
import Derived.BigQuiet
namespace Go.Proofs.YtnmidhlghhephaaGreatDoor
-- part: Wid
section
set_option linter.unusedVariables false
/-- the residue modulo 2^128 -/
def rs (x : Int) : Nat := (x % 340282366920938463463374607431768211456).toNat
theorem rs_lt (x : Int) : rs x < 340282366920938463463374607431768211456 := by unfold rs; omega
def hiN (a : Nat) : Nat := a / 18446744073709551616
def loN (a : Nat) : Nat := a % 18446744073709551616
theorem rs_add (x y : Int) : rs (x + y) = (rs x + rs y) % 340282366920938463463374607431768211456 := by unfold rs; omega
theorem rs_neg (x : Int) : rs (-x) = (340282366920938463463374607431768211456 - rs x) % 340282366920938463463374607431768211456 := by unfold rs; omega
theorem rs_nat {n : Nat} (h : n < 340282366920938463463374607431768211456) : rs (n : Int) = n := by unfold rs; omega
theorem add_lo (x y : Int) : (loN (rs x) + loN (rs y) + 0) % 18446744073709551616 = loN (rs (x + y)) := by
  rw [rs_add]; unfold loN; omega
theorem add_hi (x y : Int) : (hiN (rs x) + hiN (rs y) + (loN (rs x) + loN (rs y) + 0) / 18446744073709551616) % 18446744073709551616 = hiN (rs (x + y)) := by
  have h1 := rs_lt x
  have h2 := rs_lt y
  rw [rs_add]; unfold loN hiN; omega
theorem neg_lo (x : Int) : (0 + 18446744073709551616 - loN (rs x) - 0) % 18446744073709551616 = loN (rs (-x)) := by
  have h1 := rs_lt x
  rw [rs_neg]; unfold loN; omega
theorem neg_hi (x : Int) : (0 + 18446744073709551616 - hiN (rs x) - (if 0 < loN (rs x) + 0 then 1 else 0)) % 18446744073709551616 = hiN (rs (-x)) := by
  have h1 := rs_lt x
  rw [rs_neg]; unfold loN hiN
  split <;> omega
theorem neg_bor (x : Int) : (if 0 < loN (rs x) + 0 then 1 else 0) ≤ 1 := by split <;> omega
theorem add_car (x y : Int) : (loN (rs x) + loN (rs y) + 0) / 18446744073709551616 ≤ 1 := by unfold loN; omega
/-- the sign -/
theorem rs_pos {x : Int} (h0 : 0 ≤ x) (h1 : x < 170141183460469231731687303715884105728) : rs x = x.toNat ∧ hiN (rs x) < 9223372036854775808 := by
  have : rs x = x.toNat := by unfold rs; omega
  rw [this]
  unfold hiN
  omega
theorem rs_negb {x : Int} (h0 : x < 0) (h1 : -170141183460469231731687303715884105728 ≤ x) : 9223372036854775808 ≤ hiN (rs x) ∧ hiN (rs x) < 18446744073709551616 := by
  unfold rs hiN
  omega
/-- a product of magnitudes -/
theorem mag_prod (x y : Int) : (x.natAbs * y.natAbs : Nat) = (x * y).natAbs := (Int.natAbs_mul x y).symm
theorem prod_sign {x y : Int} (h : decide (x < 0) = decide (y < 0)) : ((x * y).natAbs : Int) = x * y := by
  by_cases hx : x < 0
  · have hy : y < 0 := by rw [decide_eq_true hx] at h; exact of_decide_eq_true h.symm
    have := Int.mul_pos_of_neg_of_neg hx hy
    omega
  · have hy : ¬ y < 0 := by rw [decide_eq_false hx] at h; exact of_decide_eq_false h.symm
    have := Int.mul_nonneg (Int.not_lt.1 hx) (Int.not_lt.1 hy)
    omega
theorem prod_nsign {x y : Int} (h : decide (x < 0) ≠ decide (y < 0)) : -((x * y).natAbs : Int) = x * y := by
  by_cases hx : x < 0
  · have hy : ¬ y < 0 := fun hy => h (by rw [decide_eq_true hx, decide_eq_true hy])
    have := Int.mul_nonpos_of_nonpos_of_nonneg (Int.le_of_lt hx) (Int.not_lt.1 hy)
    omega
  · have hy : y < 0 := Classical.byContradiction fun hy => h (by rw [decide_eq_false hx, decide_eq_false hy])
    have := Int.mul_nonpos_of_nonneg_of_nonpos (Int.not_lt.1 hx) (Int.le_of_lt hy)
    omega
theorem prod_bd {x y : Int} (hx : -1125899906842624 ≤ x ∧ x ≤ 1125899906842624) (hy : -1125899906842624 ≤ y ∧ y ≤ 1125899906842624) : (x * y).natAbs ≤ 1267650600228229401496703205376 := by
  rw [Int.natAbs_mul]
  have h := Nat.mul_le_mul (show x.natAbs ≤ 1125899906842624 by omega) (show y.natAbs ≤ 1125899906842624 by omega)
  omega
/-- what small returns -/
def smN (x : Int) : Int := if -1125899906842624 ≤ x ∧ x ≤ 1125899906842624 then x else 0
def smB (x : Int) : Bool := decide (-1125899906842624 ≤ x ∧ x ≤ 1125899906842624)
end
-- part: Wdw
section
open Go.RowKit
set_option linter.unusedVariables false
def carN (x y : Int) : Nat := (loN (rs x) + loN (rs y) + 0) / 18446744073709551616
def borN (x : Int) : Nat := if 0 < loN (rs x) + 0 then 1 else 0
theorem run_addlo (x y : Int) (w : World) : (callFunc 56 #[.int .u64 ((loN (rs x) : Nat) : Int), .int .u64 ((loN (rs y) : Nat) : Int), .int .u64 0]).run Tryz.prog w = .ok (.value (.tuple #[.int .u64 ((loN (rs (x + y)) : Nat) : Int), .int .u64 ((carN x y : Nat) : Int)])) w := by
  have h1 := add_lo x y
  have h2 : carN x y = (loN (rs x) + loN (rs y) + 0) / 18446744073709551616 := rfl
  show (callFunc 56 #[.int .u64 ((loN (rs x) : Nat) : Int), .int .u64 ((loN (rs y) : Nat) : Int), .int .u64 ((0 : Nat) : Int)]).run Tryz.prog w = _
  rw [run_callFunc_extern Tryz.func56 (by kernel_rfl) (by kernel_rfl) (by kernel_rfl) (e := add64Entry) (by kernel_rfl), run_add64 _ _ _ (by omega) (by omega) (by omega) (by omega)]
  have e1 : ((loN (rs x) : Nat) + (loN (rs y) : Nat) + ((0 : Nat) : Int)) % 18446744073709551616 = ((loN (rs (x + y)) : Nat) : Int) := by omega
  have e2 : ((loN (rs x) : Nat) + (loN (rs y) : Nat) + ((0 : Nat) : Int)) / 18446744073709551616 = ((carN x y : Nat) : Int) := by omega
  rw [e1, e2]
  rfl
theorem run_addhi (x y : Int) (w : World) : ∃ u : Int, (callFunc 56 #[.int .u64 ((hiN (rs x) : Nat) : Int), .int .u64 ((hiN (rs y) : Nat) : Int), .int .u64 ((carN x y : Nat) : Int)]).run Tryz.prog w = .ok (.value (.tuple #[.int .u64 ((hiN (rs (x + y)) : Nat) : Int), .int .u64 u])) w := by
  have hc : carN x y ≤ 1 := add_car x y
  have h1 : (hiN (rs x) + hiN (rs y) + carN x y) % 18446744073709551616 = hiN (rs (x + y)) := add_hi x y
  refine ⟨((hiN (rs x) : Nat) + (hiN (rs y) : Nat) + (carN x y : Nat) : Int) / 18446744073709551616, ?_⟩
  rw [run_callFunc_extern Tryz.func56 (by kernel_rfl) (by kernel_rfl) (by kernel_rfl) (e := add64Entry) (by kernel_rfl), run_add64 _ _ _ (by omega) (by omega) (by omega) (by omega)]
  have e1 : ((hiN (rs x) : Nat) + (hiN (rs y) : Nat) + (carN x y : Nat) : Int) % 18446744073709551616 = ((hiN (rs (x + y)) : Nat) : Int) := by omega
  rw [e1]
  rfl
theorem run_neglo (x : Int) (w : World) : (callFunc 77 #[.int .u64 0, .int .u64 ((loN (rs x) : Nat) : Int), .int .u64 0]).run Tryz.prog w = .ok (.value (.tuple #[.int .u64 ((loN (rs (-x)) : Nat) : Int), .int .u64 ((borN x : Nat) : Int)])) w := by
  show (callFunc 77 #[.int .u64 ((0 : Nat) : Int), .int .u64 ((loN (rs x) : Nat) : Int), .int .u64 ((0 : Nat) : Int)]).run Tryz.prog w = _
  rw [run_callFunc_extern Tryz.func77 (by kernel_rfl) (by kernel_rfl) (by kernel_rfl) (e := sub64Entry) (by kernel_rfl), run_sub64 0 _ 0 (by omega)]
  simp only [Result.andThen]
  rw [neg_lo]
  rfl
theorem run_neghi (x : Int) (w : World) : ∃ u : Int, (callFunc 77 #[.int .u64 0, .int .u64 ((hiN (rs x) : Nat) : Int), .int .u64 ((borN x : Nat) : Int)]).run Tryz.prog w = .ok (.value (.tuple #[.int .u64 ((hiN (rs (-x)) : Nat) : Int), .int .u64 u])) w := by
  have hc : borN x ≤ 1 := neg_bor x
  have h1 : (0 + 18446744073709551616 - hiN (rs x) - borN x) % 18446744073709551616 = hiN (rs (-x)) := neg_hi x
  refine ⟨((if 0 < hiN (rs x) + borN x then 1 else 0 : Nat) : Int), ?_⟩
  rw [← h1]
  show (callFunc 77 #[.int .u64 ((0 : Nat) : Int), .int .u64 ((hiN (rs x) : Nat) : Int), .int .u64 ((borN x : Nat) : Int)]).run Tryz.prog w = _
  rw [run_callFunc_extern Tryz.func77 (by kernel_rfl) (by kernel_rfl) (by kernel_rfl) (e := sub64Entry) (by kernel_rfl), run_sub64 0 _ _ hc]
  rfl
theorem info_wide : (Tryz.prog.info? 61).map (·.size) = some 2 := by kernel_rfl
set_option maxHeartbeats 1000000 in
theorem wadd_any (x y : Int) (w : World) :
    Calls Tryz.prog 29 #[.agg #[.int .u64 ((hiN (rs x) : Nat) : Int), .int .u64 ((loN (rs x) : Nat) : Int)], .agg #[.int .u64 ((hiN (rs y) : Nat) : Int), .int .u64 ((loN (rs y) : Nat) : Int)]] w fun e w' => e = .returned (.agg #[.int .u64 ((hiN (rs (x + y)) : Nat) : Int), .int .u64 ((loN (rs (x + y)) : Nat) : Int)]) ∧ Below w.heap.size w w' := by
  have hW : ∀ (c1 c2 c3 c4 : Int) W, W = (((w.alloc (.cells #[.int .u64 c1, .int .u64 c2] 61)).alloc (.cells #[.int .u64 c3, .int .u64 c4] 61)).alloc (.cells #[.int .u64 0, .int .u64 0] 61)) → Arr W w.heap.size 61 [.int .u64 c1, .int .u64 c2] ∧ Arr W (w.heap.size + 1) 61 [.int .u64 c3, .int .u64 c4] ∧ Arr W (w.heap.size + 2) 61 [.int .u64 0, .int .u64 0] ∧ Below w.heap.size w W ∧ W.heap.size = w.heap.size + 3 := by
    intro c1 c2 c3 c4 W hW
    subst hW
    exact ⟨((Arr.new _ _ [_, _]).alloc _).alloc _, (Arr.newAt (w.alloc _) _ [_, _] _ (by simp)).alloc _, Arr.newAt ((w.alloc _).alloc _) _ [_, _] _ (by simp), (((Below.refl _ _).alloc (Nat.le_refl _) _).alloc (by simp) _).alloc (by simp <;> omega) _, by simp⟩
  have HLO := Lib.hid (run_addlo x y)
  have HHI := Lib.hid (run_addhi x y)
  generalize hiN (rs x) = a1 at *
  generalize loN (rs x) = a2 at *
  generalize hiN (rs y) = a3 at *
  generalize loN (rs y) = a4 at *
  generalize hiN (rs (x + y)) = a5 at *
  generalize loN (rs (x + y)) = a6 at *
  generalize carN x y = a7 at *
  replace hW := hW a1 a2 a3 a4
  go_enter Tryz.func29, Tryz.ntmps29
  go_upto_region 1 with fail
  generalize (((w.alloc (.cells #[.int .u64 (a1 : Int), .int .u64 (a2 : Int)] 61)).alloc (.cells #[.int .u64 (a3 : Int), .int .u64 (a4 : Int)] 61)).alloc (.cells #[.int .u64 0, .int .u64 0] 61)) = w3 at hW ⊢
  obtain ⟨qx, qy, qr, hb3, hs3⟩ := hW w3 rfl
  clear hW
  have x0 := qx.cell 0
  have x1 := qx.cell 1
  have y0 := qy.cell 0
  have y1 := qy.cell 1
  have f0 := qr.frozen 0
  have f1 := qr.frozen 1
  have r0 := qr.cell 0
  have r1 := qr.cell 1
  obtain ⟨u, hu⟩ := HHI.out w3
  have hl := HLO.out w3
  have hres := Lib.hid ((qr.set 0 (.int .u64 (a5 : Int))).set 1 (.int .u64 (a6 : Int)))
  have HB := Lib.hid ((hb3.setCell (p := ⟨w.heap.size + 2, 0, none⟩) (by show w.heap.size ≤ w.heap.size + 2; omega) (.int .u64 (a5 : Int))).setCell (p := ⟨w.heap.size + 2, 1, none⟩) (by show w.heap.size ≤ w.heap.size + 2; omega) (.int .u64 (a6 : Int)))
  clear qx qy qr hb3 hs3 HLO HHI
  go_wp2_with fail
  refine bodyPost_ret (v := .agg #[.int .u64 (a5 : Int), .int .u64 (a6 : Int)]) (results_c Tryz.results29 _ _ (w.heap.size + 2) 61 _ _ rfl hres.out Tryz.underlying61 rfl info_wide) rfl ?_
  exact ⟨rfl, HB.out⟩
set_option maxHeartbeats 1000000 in
theorem wneg_any (x : Int) (w : World) :
    Calls Tryz.prog 61 #[.agg #[.int .u64 ((hiN (rs x) : Nat) : Int), .int .u64 ((loN (rs x) : Nat) : Int)]] w fun e w' => e = .returned (.agg #[.int .u64 ((hiN (rs (-x)) : Nat) : Int), .int .u64 ((loN (rs (-x)) : Nat) : Int)]) ∧ Below w.heap.size w w' := by
  have hW : ∀ (c1 c2 : Int) W, W = ((w.alloc (.cells #[.int .u64 c1, .int .u64 c2] 61)).alloc (.cells #[.int .u64 0, .int .u64 0] 61)) → Arr W w.heap.size 61 [.int .u64 c1, .int .u64 c2] ∧ Arr W (w.heap.size + 1) 61 [.int .u64 0, .int .u64 0] ∧ Below w.heap.size w W ∧ W.heap.size = w.heap.size + 2 := by
    intro c1 c2 W hW
    subst hW
    exact ⟨(Arr.new _ _ [_, _]).alloc _, Arr.newAt (w.alloc _) _ [_, _] _ (by simp), ((Below.refl _ _).alloc (Nat.le_refl _) _).alloc (by simp) _, by simp⟩
  have HLO := Lib.hid (run_neglo x)
  have HHI := Lib.hid (run_neghi x)
  generalize hiN (rs x) = a1 at *
  generalize loN (rs x) = a2 at *
  generalize hiN (rs (-x)) = a5 at *
  generalize loN (rs (-x)) = a6 at *
  generalize borN x = a7 at *
  replace hW := hW a1 a2
  go_enter Tryz.func61, Tryz.ntmps61
  go_upto_region 1 with fail
  generalize ((w.alloc (.cells #[.int .u64 (a1 : Int), .int .u64 (a2 : Int)] 61)).alloc (.cells #[.int .u64 0, .int .u64 0] 61)) = w3 at hW ⊢
  obtain ⟨qx, qr, hb3, hs3⟩ := hW w3 rfl
  clear hW
  have x0 := qx.cell 0
  have x1 := qx.cell 1
  have f0 := qr.frozen 0
  have f1 := qr.frozen 1
  have r0 := qr.cell 0
  have r1 := qr.cell 1
  obtain ⟨u, hu⟩ := HHI.out w3
  have hl := HLO.out w3
  have hres := Lib.hid ((qr.set 0 (.int .u64 (a5 : Int))).set 1 (.int .u64 (a6 : Int)))
  have HB := Lib.hid ((hb3.setCell (p := ⟨w.heap.size + 1, 0, none⟩) (by show w.heap.size ≤ w.heap.size + 1; omega) (.int .u64 (a5 : Int))).setCell (p := ⟨w.heap.size + 1, 1, none⟩) (by show w.heap.size ≤ w.heap.size + 1; omega) (.int .u64 (a6 : Int)))
  clear qx qr hb3 hs3 HLO HHI
  go_wp2_with fail
  refine bodyPost_ret (v := .agg #[.int .u64 (a5 : Int), .int .u64 (a6 : Int)]) (results_c Tryz.results61 _ _ (w.heap.size + 1) 61 _ _ rfl hres.out Tryz.underlying61 rfl info_wide) rfl ?_
  exact ⟨rfl, HB.out⟩
set_option maxHeartbeats 1000000 in
theorem magnitude_any (v : Int) (w : World) (h0 : -4611686018427387904 ≤ v) (h1 : v ≤ 4611686018427387904) :
    Calls Tryz.prog 58 #[.int .i64 v] w fun e w' => e = .returned (.int .u64 ((v.natAbs : Nat) : Int)) ∧ w = w' := by
  by_cases hv : v < 0
  · have e1 : IntKind.u64.wrap v = v + 18446744073709551616 := by rw [IntKind.wrap_u64]; omega
    have e2 : IntKind.u64.wrap (-(v + 18446744073709551616)) = ((v.natAbs : Nat) : Int) := by rw [IntKind.wrap_u64]; omega
    go_enter Tryz.func58, Tryz.ntmps58
    go_wp2_with fail
    go_ret
    exact ⟨rfl, rfl⟩
  · have e1 : IntKind.u64.wrap v = ((v.natAbs : Nat) : Int) := by rw [IntKind.wrap_u64]; omega
    go_enter Tryz.func58, Tryz.ntmps58
    go_wp2_with fail
    go_ret
    exact ⟨rfl, rfl⟩
/-- the result of product and small, under one name -/
def bigN (x y : Int) : Nat := x.natAbs * y.natAbs
theorem bigN_hi {x y : Int} : ((x.natAbs * y.natAbs / 18446744073709551616 : Nat) : Int) = ((hiN (bigN x y) : Nat) : Int) := rfl
theorem bigN_rs {x y : Int} (h : bigN x y < 340282366920938463463374607431768211456) : rs ((bigN x y : Nat) : Int) = bigN x y := rs_nat h
theorem bigN_same {x y : Int} (h : decide (x < 0) = decide (y < 0)) : ((bigN x y : Nat) : Int) = x * y := by unfold bigN; rw [mag_prod]; exact prod_sign h
theorem bigN_diff {x y : Int} (h : decide (x < 0) ≠ decide (y < 0)) : -((bigN x y : Nat) : Int) = x * y := by unfold bigN; rw [mag_prod]; exact prod_nsign h
set_option maxHeartbeats 1000000 in
theorem product_any (x y : Int) (w : World) (hx : -1125899906842624 ≤ x ∧ x ≤ 1125899906842624) (hy : -1125899906842624 ≤ y ∧ y ≤ 1125899906842624) :
    Calls Tryz.prog 35 #[.int .i64 x, .int .i64 y] w fun e w' => e = .returned (.agg #[.int .u64 ((hiN (rs (x * y)) : Nat) : Int), .int .u64 ((loN (rs (x * y)) : Nat) : Int)]) ∧ Below w.heap.size w w' := by
  have hbd : bigN x y < 340282366920938463463374607431768211456 := by
    have h := prod_bd hx hy
    unfold bigN; rw [mag_prod]; omega
  have hrs := bigN_rs hbd
  have HM := Lib.hid (fun W => Tryz.bits_Mul64 x.natAbs y.natAbs (by omega) (by omega) W)
  have HMX := Lib.hid (fun W => magnitude_any x W (by omega) (by omega))
  have HMY := Lib.hid (fun W => magnitude_any y W (by omega) (by omega))
  have HN := Lib.hid (fun W => wneg_any ((bigN x y : Nat) : Int) W)
  rw [hrs] at HN
  have HS := Lib.hid (fun h => show bigN x y = rs (x * y) by rw [← bigN_same (x := x) (y := y) h, hrs])
  have HD := Lib.hid (fun h => show rs (-((bigN x y : Nat) : Int)) = rs (x * y) by rw [bigN_diff (x := x) (y := y) h])
  have hW : ∀ (c1 c2 : Int) (t : TypeId) W, W = ((w.alloc (.cells #[.int .u64 0, .int .u64 0] 61)).alloc (.cells #[.int .u64 c1, .int .u64 c2] 61)) → Arr W w.heap.size 61 [.int .u64 0, .int .u64 0] ∧ Arr W (w.heap.size + 1) 61 [.int .u64 c1, .int .u64 c2] ∧ Below w.heap.size w W ∧ W.heap.size = w.heap.size + 2 := by
    intro c1 c2 t W hW
    subst hW
    exact ⟨(Arr.new _ _ [_, _]).alloc _, Arr.newAt (w.alloc _) _ [_, _] _ (by simp), ((Below.refl _ _).alloc (Nat.le_refl _) _).alloc (by simp) _, by simp⟩
  clear hrs hbd
  go_enter Tryz.func35, Tryz.ntmps35
  go_wp2_with fail
  refine (HMX.out _).mono ?_
  rintro e w1 ⟨rfl, rfl⟩
  go_wp2_with fail
  refine (HMY.out _).mono ?_
  rintro e w1 ⟨rfl, rfl⟩
  go_wp2_with fail
  refine (HM.out _).mono ?_
  rintro e w1 ⟨rfl, rfl⟩
  clear HM HMX HMY
  rw [bigN_hi]
  have e1 : ((x.natAbs * y.natAbs % 18446744073709551616 : Nat) : Int) = ((loN (bigN x y) : Nat) : Int) := rfl
  rw [e1]
  clear e1
  go_upto_region 3 with fail
  obtain ⟨BN, hBN⟩ : ∃ B, B = bigN x y := ⟨_, rfl⟩
  rw [← hBN] at HN HS HD ⊢
  clear hBN
  have HH := Lib.hid (hW ((hiN BN : Nat) : Int) ((loN BN : Nat) : Int))
  clear hW
  have HH2 := Lib.hid (HH.out 0 _ rfl)
  clear HH
  generalize ((w.alloc (.cells #[.int .u64 0, .int .u64 0] 61)).alloc (.cells #[.int .u64 ((hiN BN : Nat) : Int), .int .u64 ((loN BN : Nat) : Int)] 61)) = w3 at HH2 ⊢
  obtain ⟨qr, qx, hb3, hs3⟩ := HH2.out
  clear HH2
  have x0 := qx.cell 0
  have x1 := qx.cell 1
  by_cases hs : decide (x < 0) = decide (y < 0)
  · have HRS := Lib.hid (HS.out hs)
    have z1 : (decide (x < 0) != decide (y < 0)) = false := by rw [hs]; simp
    have z2 : (decide (x < 0) == decide (y < 0)) = true := by rw [hs]; simp
    have f0 := qr.frozen 0
    have f1 := qr.frozen 1
    have r0 := qr.cell 0
    have r1 := qr.cell 1
    have hres := Lib.hid ((qr.set 0 (.int .u64 ((hiN BN : Nat) : Int))).set 1 (.int .u64 ((loN BN : Nat) : Int)))
    have HB := Lib.hid ((hb3.setCell (p := ⟨w.heap.size, 0, none⟩) (Nat.le_refl _) (.int .u64 ((hiN BN : Nat) : Int))).setCell (p := ⟨w.heap.size, 1, none⟩) (Nat.le_refl _) (.int .u64 ((loN BN : Nat) : Int)))
    clear HS HD HN hs hs3 hb3 qr qx
    go_wp2_with fail
    refine bodyPost_ret (v := .agg #[.int .u64 ((hiN BN : Nat) : Int), .int .u64 ((loN BN : Nat) : Int)]) (results_c Tryz.results35 _ _ w.heap.size 61 _ _ rfl hres.out Tryz.underlying61 rfl info_wide) rfl ?_
    exact ⟨by rw [HRS.out], HB.out⟩
  · have HRS := Lib.hid (HD.out hs)
    have z1 : (decide (x < 0) != decide (y < 0)) = true := by simp [hs]
    have z2 : (decide (x < 0) == decide (y < 0)) = false := by simp [hs]
    have HN3 := Lib.hid (HN.out w3)
    rw [HRS.out] at HN3
    have HQ := Lib.hid qr
    have HB3 := Lib.hid hb3
    clear HS HD HN hs hs3 hb3 qr qx HRS
    go_wp2_with fail
    refine HN3.out.mono ?_
    rintro e w4 ⟨rfl, hb4⟩
    have qr := HQ.out.below hb4 HQ.out.lt
    have hb5 := HB3.out.trans (hb4.mono HB3.out.size)
    have f0 := qr.frozen 0
    have f1 := qr.frozen 1
    have r0 := qr.cell 0
    have r1 := qr.cell 1
    have hres := Lib.hid ((qr.set 0 (.int .u64 ((hiN (rs (x * y)) : Nat) : Int))).set 1 (.int .u64 ((loN (rs (x * y)) : Nat) : Int)))
    have HB := Lib.hid ((hb5.setCell (p := ⟨w.heap.size, 0, none⟩) (Nat.le_refl _) (.int .u64 ((hiN (rs (x * y)) : Nat) : Int))).setCell (p := ⟨w.heap.size, 1, none⟩) (Nat.le_refl _) (.int .u64 ((loN (rs (x * y)) : Nat) : Int)))
    clear qr hb4 hb5 HN3 x0 x1
    go_wp2_with fail
    refine bodyPost_ret (v := .agg #[.int .u64 ((hiN (rs (x * y)) : Nat) : Int), .int .u64 ((loN (rs (x * y)) : Nat) : Int)]) (results_c Tryz.results35 _ _ w.heap.size 61 _ _ rfl hres.out Tryz.underlying61 rfl info_wide) rfl ?_
    exact ⟨rfl, HB.out⟩
end
-- part: Wsm
section
open Go.RowKit
set_option linter.unusedVariables false
set_option maxHeartbeats 1000000 in
theorem wsplit_any (x : Int) (w : World) (h0 : -170141183460469231731687303715884105728 < x) (h1 : x < 170141183460469231731687303715884105728) :
    Calls Tryz.prog 57 #[.agg #[.int .u64 ((hiN (rs x) : Nat) : Int), .int .u64 ((loN (rs x) : Nat) : Int)]] w fun e w' => e = .returned (.tuple #[.agg #[.int .u64 ((hiN x.natAbs : Nat) : Int), .int .u64 ((loN x.natAbs : Nat) : Int)], .bool (decide (x < 0))]) ∧ Below w.heap.size w w' := by
  have hW : ∀ (c1 c2 : Int) W, W = ((w.alloc (.cells #[.int .u64 c1, .int .u64 c2] 61)).alloc (.cells #[.int .u64 0, .int .u64 0] 61)) → Arr W w.heap.size 61 [.int .u64 c1, .int .u64 c2] ∧ Arr W (w.heap.size + 1) 61 [.int .u64 0, .int .u64 0] ∧ Below w.heap.size w W ∧ W.heap.size = w.heap.size + 2 := by
    intro c1 c2 W hW
    subst hW
    exact ⟨(Arr.new _ _ [_, _]).alloc _, Arr.newAt (w.alloc _) _ [_, _] _ (by simp), ((Below.refl _ _).alloc (Nat.le_refl _) _).alloc (by simp) _, by simp⟩
  have HN := Lib.hid (fun W => wneg_any x W)
  by_cases hx : x < 0
  · have hr : rs (-x) = x.natAbs := by rw [(rs_pos (x := -x) (by omega) (by omega)).1]; omega
    obtain ⟨g1, g2⟩ := rs_negb hx (Int.le_of_lt h0)
    have z1 : (((hiN (rs x) : Nat) : Int) / 9223372036854775808 == 1) = true := by rw [beq_iff_eq]; omega
    rw [hr] at HN
    rw [decide_eq_true hx]
    clear h0 h1 hr hx g1 g2
    generalize hiN (rs x) = a1 at *
    generalize loN (rs x) = a2 at *
    generalize hiN x.natAbs = a5 at *
    generalize loN x.natAbs = a6 at *
    replace hW := hW a1 a2
    go_enter Tryz.func57, Tryz.ntmps57
    go_upto_region 1 with fail
    generalize ((w.alloc (.cells #[.int .u64 (a1 : Int), .int .u64 (a2 : Int)] 61)).alloc (.cells #[.int .u64 0, .int .u64 0] 61)) = w3 at hW ⊢
    obtain ⟨qx, qr, hb3, hs3⟩ := hW w3 rfl
    clear hW
    have x0 := qx.cell 0
    have x1 := qx.cell 1
    have HN3 := Lib.hid (HN.out w3)
    have HQ := Lib.hid qr
    have HB3 := Lib.hid hb3
    clear HN qx qr hb3 hs3
    go_wp2_with fail
    refine HN3.out.mono ?_
    rintro e w4 ⟨rfl, hb4⟩
    have qr := HQ.out.below hb4 HQ.out.lt
    have hb3 := HB3.out.trans (hb4.mono HB3.out.size)
    clear x0 x1 hb4 HN3
    have f0 := qr.frozen 0
    have f1 := qr.frozen 1
    have r0 := qr.cell 0
    have r1 := qr.cell 1
    have hres := Lib.hid ((qr.set 0 (.int .u64 (a5 : Int))).set 1 (.int .u64 (a6 : Int)))
    have HB := Lib.hid ((hb3.setCell (p := ⟨w.heap.size + 1, 0, none⟩) (by show w.heap.size ≤ w.heap.size + 1; omega) (.int .u64 (a5 : Int))).setCell (p := ⟨w.heap.size + 1, 1, none⟩) (by show w.heap.size ≤ w.heap.size + 1; omega) (.int .u64 (a6 : Int)))
    clear qr hb3
    go_wp2_with fail
    refine bodyPost_ret (v := .tuple #[.agg #[.int .u64 (a5 : Int), .int .u64 (a6 : Int)], .bool true]) (results_ct Tryz.results57 _ _ (w.heap.size + 1) 61 _ _ rfl hres.out Tryz.underlying61 rfl info_wide) rfl ?_
    exact ⟨rfl, HB.out⟩
  · obtain ⟨hr, g1⟩ := rs_pos (x := x) (by omega) h1
    have hr2 : rs x = x.natAbs := by omega
    have z1 : (((hiN (rs x) : Nat) : Int) / 9223372036854775808 == 1) = false := by rw [beq_eq_false_iff_ne]; omega
    rw [decide_eq_false hx]
    rw [hr2] at z1 ⊢
    clear h0 h1 hr hx g1 HN hr2
    generalize hiN x.natAbs = a1 at *
    generalize loN x.natAbs = a2 at *
    replace hW := hW a1 a2
    go_enter Tryz.func57, Tryz.ntmps57
    go_upto_region 1 with fail
    generalize ((w.alloc (.cells #[.int .u64 (a1 : Int), .int .u64 (a2 : Int)] 61)).alloc (.cells #[.int .u64 0, .int .u64 0] 61)) = w3 at hW ⊢
    obtain ⟨qx, qr, hb3, hs3⟩ := hW w3 rfl
    clear hW
    have x0 := qx.cell 0
    have x1 := qx.cell 1
    have f0 := qr.frozen 0
    have f1 := qr.frozen 1
    have r0 := qr.cell 0
    have r1 := qr.cell 1
    have hres := Lib.hid ((qr.set 0 (.int .u64 (a1 : Int))).set 1 (.int .u64 (a2 : Int)))
    have HB := Lib.hid ((hb3.setCell (p := ⟨w.heap.size + 1, 0, none⟩) (by show w.heap.size ≤ w.heap.size + 1; omega) (.int .u64 (a1 : Int))).setCell (p := ⟨w.heap.size + 1, 1, none⟩) (by show w.heap.size ≤ w.heap.size + 1; omega) (.int .u64 (a2 : Int)))
    clear qr hb3
    go_wp2_with fail
    refine bodyPost_ret (v := .tuple #[.agg #[.int .u64 (a1 : Int), .int .u64 (a2 : Int)], .bool false]) (results_ct Tryz.results57 _ _ (w.heap.size + 1) 61 _ _ rfl hres.out Tryz.underlying61 rfl info_wide) rfl ?_
    exact ⟨rfl, HB.out⟩
theorem hiN_small {a : Nat} (h : a ≤ 1125899906842624) : hiN a = 0 ∧ loN a = a := by unfold hiN loN; omega
theorem hiN_great {a : Nat} (h : 1125899906842624 < a) : hiN a ≠ 0 ∨ (hiN a = 0 ∧ 1125899906842624 < loN a) := by unfold hiN loN; omega
set_option maxHeartbeats 1000000 in
theorem wsmall_any (x : Int) (w : World) (h0 : -170141183460469231731687303715884105728 < x) (h1 : x < 170141183460469231731687303715884105728) :
    Calls Tryz.prog 30 #[.agg #[.int .u64 ((hiN (rs x) : Nat) : Int), .int .u64 ((loN (rs x) : Nat) : Int)]] w fun e w' => e = .returned (.tuple #[.int .i64 (smN x), .bool (smB x)]) ∧ Below w.heap.size w w' := by
  have hW : ∀ (c1 c2 : Int) W, W = (w.alloc (.cells #[.int .u64 c1, .int .u64 c2] 61)) → Arr W w.heap.size 61 [.int .u64 c1, .int .u64 c2] ∧ Below w.heap.size w W ∧ W.heap.size = w.heap.size + 1 := by
    intro c1 c2 W hW
    subst hW
    exact ⟨(Arr.new _ _ [_, _]), ((Below.refl _ _).alloc (Nat.le_refl _) _), by simp⟩
  have HSP := Lib.hid (fun W => wsplit_any x W h0 h1)
  have HCS := Lib.hid (show (x.natAbs ≤ 1125899906842624 ∧ hiN x.natAbs = 0 ∧ loN x.natAbs = x.natAbs ∧ smN x = x ∧ smB x = true) ∨ (hiN x.natAbs ≠ 0 ∧ smN x = 0 ∧ smB x = false) ∨ (hiN x.natAbs = 0 ∧ 1125899906842624 < loN x.natAbs ∧ smN x = 0 ∧ smB x = false) by
    by_cases h : x.natAbs ≤ 1125899906842624
    · have := hiN_small h
      have h2 : -1125899906842624 ≤ x ∧ x ≤ 1125899906842624 := by omega
      exact .inl ⟨h, this.1, this.2, by unfold smN; rw [if_pos h2], decide_eq_true h2⟩
    · have h2 : ¬ (-1125899906842624 ≤ x ∧ x ≤ 1125899906842624) := by omega
      have h3 : smN x = 0 ∧ smB x = false := ⟨by unfold smN; rw [if_neg h2], decide_eq_false h2⟩
      rcases hiN_great (Nat.lt_of_not_le h) with q | q
      · exact .inr (.inl ⟨q, h3⟩)
      · exact .inr (.inr ⟨q.1, q.2, h3⟩))
  have HXA := Lib.hid (show (x < 0 → -((x.natAbs : Nat) : Int) = x) ∧ (0 ≤ x → ((x.natAbs : Nat) : Int) = x) from ⟨fun _ => by omega, fun _ => by omega⟩)
  clear h0 h1
  generalize hiN (rs x) = a1 at *
  generalize loN (rs x) = a2 at *
  replace hW := hW a1 a2
  go_enter Tryz.func30, Tryz.ntmps30
  go_upto_region 1 with fail
  generalize (w.alloc (.cells #[.int .u64 (a1 : Int), .int .u64 (a2 : Int)] 61)) = w3 at hW ⊢
  obtain ⟨qx, hb3, hs3⟩ := hW w3 rfl
  clear hW
  have x0 := qx.cell 0
  have x1 := qx.cell 1
  have HSP3 := Lib.hid (HSP.out w3)
  have HB3 := Lib.hid hb3
  clear HSP qx hb3 hs3
  go_wp2_with fail
  refine HSP3.out.mono ?_
  rintro e w4 ⟨rfl, hb4⟩
  have HB4 := Lib.hid (HB3.out.trans (hb4.mono HB3.out.size))
  clear hb4 HSP3 x0 x1 HB3
  rcases HCS.out with ⟨g1, g2, g3, g4, g5⟩ | ⟨g1, g2, g3⟩ | ⟨g1, g2, g3, g4⟩
  · have HG4 := Lib.hid g4
    have HG5 := Lib.hid g5
    rw [g2, g3]
    clear g2 g3 g4 g5 HCS
    by_cases hx : x < 0
    · have HE := Lib.hid (HXA.out.1 hx)
      have zx : decide (x < 0) = true := decide_eq_true hx
      clear HXA
      generalize x.natAbs = a at *
      go_wp2_with fail
      go_ret2
      exact ⟨by rw [HG4.out, HG5.out, ← HE.out]; rfl, HB4.out.alloc HB4.out.size _⟩
    · have HE := Lib.hid (HXA.out.2 (by omega))
      have zx : decide (x < 0) = false := decide_eq_false hx
      clear HXA
      generalize x.natAbs = a at *
      go_wp2_with fail
      go_ret2
      exact ⟨by rw [HG4.out, HG5.out, ← HE.out]; rfl, HB4.out.alloc HB4.out.size _⟩
  · have HG4 := Lib.hid g2
    have HG5 := Lib.hid g3
    have z1 : (((hiN x.natAbs : Nat) : Int) != 0) = true := by simp; omega
    have z2 : (((hiN x.natAbs : Nat) : Int) == 0) = false := by simp; omega
    clear g1 g2 g3 HCS HXA
    go_wp2_with fail
    go_ret2
    exact ⟨by rw [HG4.out, HG5.out]; rfl, HB4.out.alloc HB4.out.size _⟩
  · have HG4 := Lib.hid g3
    have HG5 := Lib.hid g4
    rw [g1]
    have z1 : (1125899906842624 : Int) < ((loN x.natAbs : Nat) : Int) := by omega
    clear g1 g2 g3 g4 HCS HXA
    go_wp2_with fail
    go_ret2
    exact ⟨by rw [HG4.out, HG5.out]; rfl, HB4.out.alloc HB4.out.size _⟩
end
end Go.Proofs.YtnmidhlghhephaaGreatDoor

namespace Go.Proofs.YtnmidhlghhephaaGreatDoor
open Go.RowKit
set_option linter.unusedVariables false
/-- a wide integer -/
def wv (x : Int) : Value := .agg #[.int .u64 ((hiN (rs x) : Nat) : Int), .int .u64 ((loN (rs x) : Nat) : Int)]
theorem widen_hi {v : Int} (h0 : -9223372036854775808 ≤ v) (h1 : v < 9223372036854775808) : IntKind.u64.wrap (v / 9223372036854775808) = ((hiN (rs v) : Nat) : Int) := by
  rw [IntKind.wrap_u64]; unfold hiN rs; omega
theorem widen_lo {v : Int} (h0 : -9223372036854775808 ≤ v) (h1 : v < 9223372036854775808) : IntKind.u64.wrap v = ((loN (rs v) : Nat) : Int) := by
  rw [IntKind.wrap_u64]; unfold loN rs; omega
set_option maxHeartbeats 1000000 in
theorem widen_any (v : Int) (w : World) (h0 : -9223372036854775808 ≤ v) (h1 : v < 9223372036854775808) :
    Calls Tryz.prog 32 #[.int .i64 v] w fun e w' => e = .returned (wv v) ∧ Below w.heap.size w w' := by
  have e1 := widen_hi h0 h1
  have e2 := widen_lo h0 h1
  unfold wv
  clear h0 h1
  generalize ((hiN (rs v) : Nat) : Int) = a1 at *
  generalize ((loN (rs v) : Nat) : Int) = a2 at *
  have hW : ∀ W, W = (w.alloc (.cells #[.int .u64 0, .int .u64 0] 61)) → Arr W w.heap.size 61 [.int .u64 0, .int .u64 0] ∧ Below w.heap.size w W := by
    intro W hW
    subst hW
    exact ⟨Arr.new _ _ [_, _], (Below.refl _ _).alloc (Nat.le_refl _) _⟩
  go_enter Tryz.func32, Tryz.ntmps32
  go_upto_region 1 with fail
  generalize (w.alloc (.cells #[.int .u64 0, .int .u64 0] 61)) = w3 at hW ⊢
  obtain ⟨qr, hb3⟩ := hW w3 rfl
  clear hW
  have f0 := qr.frozen 0
  have f1 := qr.frozen 1
  have r0 := qr.cell 0
  have r1 := qr.cell 1
  have hres := Lib.hid ((qr.set 0 (.int .u64 a1)).set 1 (.int .u64 a2))
  have HB := Lib.hid ((hb3.setCell (p := ⟨w.heap.size, 0, none⟩) (Nat.le_refl _) (.int .u64 a1)).setCell (p := ⟨w.heap.size, 1, none⟩) (Nat.le_refl _) (.int .u64 a2))
  clear qr hb3
  go_wp2_with fail
  refine bodyPost_ret (v := .agg #[.int .u64 a1, .int .u64 a2]) (results_c Tryz.results32 _ _ (w.heap.size) 61 _ _ rfl hres.out Tryz.underlying61 rfl info_wide) rfl ?_
  exact ⟨rfl, HB.out⟩
theorem rs_zero {x : Int} (h0 : -170141183460469231731687303715884105728 < x) (h1 : x < 170141183460469231731687303715884105728) : (hiN (rs x) = 0 ∧ loN (rs x) = 0) ↔ x = 0 := by
  unfold hiN loN rs; omega
set_option maxHeartbeats 1000000 in
theorem wzero_any (x : Int) (w : World) (h0 : -170141183460469231731687303715884105728 < x) (h1 : x < 170141183460469231731687303715884105728) :
    Calls Tryz.prog 33 #[wv x] w fun e w' => e = .returned (.bool (decide (x = 0))) ∧ Below w.heap.size w w' := by
  have HZ := Lib.hid (rs_zero h0 h1)
  clear h0 h1
  unfold wv
  have HD := Lib.hid (show ∀ b : Bool, b = decide (hiN (rs x) = 0 ∧ loN (rs x) = 0) → b = decide (x = 0) from fun b h => by rw [h]; exact decide_eq_decide.2 HZ.out)
  clear HZ
  generalize decide (x = 0) = d at *
  generalize hiN (rs x) = a1 at *
  generalize loN (rs x) = a2 at *
  have hW : ∀ W, W = (w.alloc (.cells #[.int .u64 (a1 : Int), .int .u64 (a2 : Int)] 61)) → Arr W w.heap.size 61 [.int .u64 (a1 : Int), .int .u64 (a2 : Int)] ∧ Below w.heap.size w W := by
    intro W hW
    subst hW
    exact ⟨Arr.new _ _ [_, _], (Below.refl _ _).alloc (Nat.le_refl _) _⟩
  go_enter Tryz.func33, Tryz.ntmps33
  go_upto_region 1 with fail
  generalize (w.alloc (.cells #[.int .u64 (a1 : Int), .int .u64 (a2 : Int)] 61)) = w3 at hW ⊢
  obtain ⟨qx, hb3⟩ := hW w3 rfl
  clear hW
  have x0 := qx.cell 0
  have x1 := qx.cell 1
  clear qx
  by_cases g1 : a1 = 0
  · have z1 : ((a1 : Int) == 0) = true := by simp [g1]
    by_cases g2 : a2 = 0
    · have z2 : ((a2 : Int) == 0) = true := by simp [g2]
      have HR := Lib.hid (HD.out true (by simp [g1, g2]))
      clear g1 g2
      go_wp2_with fail
      go_ret
      exact ⟨by rw [← HR.out]; rfl, hb3⟩
    · have z2 : ((a2 : Int) == 0) = false := by simp [g2]
      have HR := Lib.hid (HD.out false (by simp [g1, g2]))
      clear g1 g2
      go_wp2_with fail
      go_ret
      exact ⟨by rw [← HR.out]; rfl, hb3⟩
  · have z1 : ((a1 : Int) == 0) = false := by simp [g1]
    have HR := Lib.hid (HD.out false (by simp [g1]))
    clear g1
    go_wp2_with fail
    go_ret
    exact ⟨by rw [← HR.out]; rfl, hb3⟩
theorem magnitude_one (w : World) : Calls Tryz.prog 58 #[.int .i64 1] w fun e w' => e = .returned (.int .u64 1) ∧ w = w' := magnitude_any 1 w (by decide) (by decide)
set_option maxHeartbeats 1000000 in
theorem div64_one (lo : Nat) (w : World) (h1 : lo < 18446744073709551616) :
    Calls Tryz.prog 59 #[.int .u64 0, .int .u64 (lo : Int), .int .u64 1] w fun e w' => e = .returned (.tuple #[.int .u64 (lo : Int), .int .u64 0]) ∧ Below w.heap.size w w' := by
  have e1 : (lo : Int) / 1 = (lo : Int) := Int.ediv_one _
  have e2 : (lo : Int) % 1 = 0 := Int.emod_one _
  have e3 : (lo : Int).tdiv 1 = (lo : Int) := Int.tdiv_one _
  have e4 : (lo : Int).tmod 1 = 0 := Int.tmod_one _
  have e5 : IntKind.u64.wrap (lo : Int) = (lo : Int) := by rw [IntKind.wrap_u64]; omega
  have e6 : IntKind.u64.wrap 0 = 0 := rfl
  go_enter Tryz.func59, Tryz.ntmps59
  go_wp2_with fail
  go_quiet (fail)
  go_wp2_with fail
  go_ret2
  exact ⟨rfl, bdrewN (Below.refl _ _) _⟩
/-- what quotient returns at the divisor 1 -/
theorem wquot1_any (x : Int) (w : World) (h0 : -1125899906842624 ≤ x) (h1 : x ≤ 1125899906842624) :
    Calls Tryz.prog 34 #[wv x, .int .i64 1] w fun e w' => e = .returned (.tuple #[.int .i64 x, .bool true]) ∧ Below w.heap.size w w' := by
  have hW : ∀ (c1 c2 : Int) W, W = (w.alloc (.cells #[.int .u64 c1, .int .u64 c2] 61)) → Arr W w.heap.size 61 [.int .u64 c1, .int .u64 c2] ∧ Below w.heap.size w W ∧ W.heap.size = w.heap.size + 1 := by
    intro c1 c2 W hW
    subst hW
    exact ⟨(Arr.new _ _ [_, _]), ((Below.refl _ _).alloc (Nat.le_refl _) _), by simp⟩
  have HSP := Lib.hid (fun W => wsplit_any x W (by omega) (by omega))
  have hsm := hiN_small (a := x.natAbs) (by omega)
  rw [hsm.1, hsm.2] at HSP
  have HD := Lib.hid (fun W => div64_one x.natAbs W (by omega))
  unfold wv
  have g1 : x.natAbs ≤ 1125899906842624 := by omega
  have HXA := Lib.hid (show (x < 0 → -((x.natAbs : Nat) : Int) = x) ∧ (0 ≤ x → ((x.natAbs : Nat) : Int) = x) from ⟨fun _ => by omega, fun _ => by omega⟩)
  clear h0 h1 hsm
  generalize hiN (rs x) = a1 at *
  generalize loN (rs x) = a2 at *
  replace hW := hW a1 a2
  go_enter Tryz.func34, Tryz.ntmps34
  go_upto_region 1 with fail
  generalize (w.alloc (.cells #[.int .u64 (a1 : Int), .int .u64 (a2 : Int)] 61)) = w3 at hW ⊢
  obtain ⟨qx, hb3, hs3⟩ := hW w3 rfl
  clear hW
  have x0 := qx.cell 0
  have x1 := qx.cell 1
  have HSP3 := Lib.hid (HSP.out w3)
  have HB3 := Lib.hid hb3
  clear HSP qx hb3 hs3
  go_wp2_with fail
  refine HSP3.out.mono ?_
  rintro e w4 ⟨rfl, hb4⟩
  have HB4 := Lib.hid (HB3.out.trans (hb4.mono HB3.out.size))
  clear hb4 HSP3 x0 x1 HB3
  go_wp2_with fail
  refine (magnitude_one _).mono ?_
  rintro e w5 ⟨rfl, rfl⟩
  go_upto_region 5 with fail
  have hW : ∀ W, W = (w4.alloc (.cells #[.int .u64 0, .int .u64 (x.natAbs : Int)] 61)) → Arr W w4.heap.size 61 [.int .u64 0, .int .u64 (x.natAbs : Int)] ∧ Below w.heap.size w W := by
    intro W hW
    subst hW
    exact ⟨(Arr.new _ _ [_, _]), HB4.out.alloc HB4.out.size _⟩
  generalize (w4.alloc (.cells #[.int .u64 0, .int .u64 (x.natAbs : Int)] 61)) = w5 at hW ⊢
  obtain ⟨qx, hb5⟩ := hW w5 rfl
  clear hW HB4
  have x0 := qx.cell 0
  have x1 := qx.cell 1
  have HB5 := Lib.hid hb5
  have HD5 := Lib.hid (HD.out w5)
  clear HD qx hb5
  have z3 : IntKind.i64.wrap ((x.natAbs : Nat) : Int) = ((x.natAbs : Nat) : Int) := by rw [IntKind.wrap_i64]; omega
  have g2 : ((x.natAbs : Nat) : Int) ≤ 1125899906842624 := by omega
  go_wp2_with fail
  refine HD5.out.mono ?_
  rintro e w6 ⟨rfl, hb6⟩
  have HB6 := Lib.hid (HB5.out.trans (hb6.mono HB5.out.size))
  clear HB5 HD5 hb6 x0 x1
  by_cases hx : x < 0
  · have HE := Lib.hid (HXA.out.1 hx)
    have zx : decide (x < 0) = true := decide_eq_true hx
    clear HXA
    generalize x.natAbs = a at *
    go_wp2_with fail
    go_ret2
    exact ⟨by rw [← HE.out]; rfl, HB6.out⟩
  · have HE := Lib.hid (HXA.out.2 (by omega))
    have zx : decide (x < 0) = false := decide_eq_false hx
    clear HXA
    generalize x.natAbs = a at *
    go_wp2_with fail
    go_ret2
    exact ⟨by rw [← HE.out]; rfl, HB6.out⟩
end Go.Proofs.YtnmidhlghhephaaGreatDoor
