/- laurent: integers of 128 bits with a sign. -/
/- Products of Laurent polynomials: plain. -/
import Derived.Lib.Hide
import Derived.Test.YtjeklcgfffibpaaGreatDoorZPad
import Derived.Test.YtjeklcgfffibpaaGreatDoorShelf
import Derived.Shelf.Spec.BitsCarry
import Derived.Laws.Bits64b
import Derived.Outline
import Derived.Deep.CutBlock
import Derived.Deep.LoopGhost
import Derived.Test.YtjeklcgfffibpaaGreatDoorZOwn
namespace Go.Proofs.YtjeklcgfffibpaaGreatDoor
-- part: Wid
section
set_option linter.unusedVariables false

/-- the residue modulo 2^128 -/
def rs (x : Int) : Nat := (x % 340282366920938463463374607431768211456).toNat
theorem rs_lt (x : Int) : rs x < 340282366920938463463374607431768211456 := by unfold rs; omega
def hiN (a : Nat) : Nat := a / 18446744073709551616
def loN (a : Nat) : Nat := a % 18446744073709551616
theorem hiN_lt {a : Nat} (h : a < 340282366920938463463374607431768211456) : hiN a < 18446744073709551616 := by unfold hiN; omega
theorem loN_lt (a : Nat) : loN a < 18446744073709551616 := by unfold loN; omega
theorem rs_0 : rs 0 = 0 := rfl
theorem hiN_0 : hiN (rs 0) = 0 := rfl
theorem loN_0 : loN (rs 0) = 0 := rfl
theorem rs_add (x y : Int) : rs (x + y) = (rs x + rs y) % 340282366920938463463374607431768211456 := by unfold rs; omega
theorem rs_neg (x : Int) : rs (-x) = (340282366920938463463374607431768211456 - rs x) % 340282366920938463463374607431768211456 := by unfold rs; omega
theorem rs_nat {n : Nat} (h : n < 340282366920938463463374607431768211456) : rs (n : Int) = n := by unfold rs; omega
theorem add_lo (x y : Int) : (loN (rs x) + loN (rs y) + 0) % 18446744073709551616 = loN (rs (x + y)) := by
  rw [rs_add]; unfold loN; omega
theorem add_hi (x y : Int) : (hiN (rs x) + hiN (rs y) + (loN (rs x) + loN (rs y) + 0) / 18446744073709551616) % 18446744073709551616 = hiN (rs (x + y)) := by
  have h1 := rs_lt x
  have h2 := rs_lt y
  rw [rs_add]; unfold loN hiN; omega
theorem neg_lo (x : Int) : (0 + 18446744073709551616 - loN (rs x) - 0) % 18446744073709551616 = loN (rs (-x)) := by
  have h1 := rs_lt x
  rw [rs_neg]; unfold loN; omega
theorem neg_hi (x : Int) : (0 + 18446744073709551616 - hiN (rs x) - (if 0 < loN (rs x) + 0 then 1 else 0)) % 18446744073709551616 = hiN (rs (-x)) := by
  have h1 := rs_lt x
  rw [rs_neg]; unfold loN hiN
  split <;> omega
theorem neg_bor (x : Int) : (if 0 < loN (rs x) + 0 then 1 else 0) ≤ 1 := by split <;> omega
theorem add_car (x y : Int) : (loN (rs x) + loN (rs y) + 0) / 18446744073709551616 ≤ 1 := by unfold loN; omega
/-- the sign -/
theorem rs_pos {x : Int} (h0 : 0 ≤ x) (h1 : x < 170141183460469231731687303715884105728) : rs x = x.toNat ∧ hiN (rs x) < 9223372036854775808 := by
  have : rs x = x.toNat := by unfold rs; omega
  rw [this]
  unfold hiN
  omega
theorem rs_negb {x : Int} (h0 : x < 0) (h1 : -170141183460469231731687303715884105728 ≤ x) : 9223372036854775808 ≤ hiN (rs x) ∧ hiN (rs x) < 18446744073709551616 := by
  unfold rs hiN
  omega
/-- a product of magnitudes -/
theorem mag_prod (x y : Int) : (x.natAbs * y.natAbs : Nat) = (x * y).natAbs := (Int.natAbs_mul x y).symm
theorem prod_sign {x y : Int} (h : decide (x < 0) = decide (y < 0)) : ((x * y).natAbs : Int) = x * y := by
  by_cases hx : x < 0
  · have hy : y < 0 := by rw [decide_eq_true hx] at h; exact of_decide_eq_true h.symm
    have := Int.mul_pos_of_neg_of_neg hx hy
    omega
  · have hy : ¬ y < 0 := by rw [decide_eq_false hx] at h; exact of_decide_eq_false h.symm
    have := Int.mul_nonneg (Int.not_lt.1 hx) (Int.not_lt.1 hy)
    omega
theorem prod_nsign {x y : Int} (h : decide (x < 0) ≠ decide (y < 0)) : -((x * y).natAbs : Int) = x * y := by
  by_cases hx : x < 0
  · have hy : ¬ y < 0 := fun hy => h (by rw [decide_eq_true hx, decide_eq_true hy])
    have := Int.mul_nonpos_of_nonpos_of_nonneg (Int.le_of_lt hx) (Int.not_lt.1 hy)
    omega
  · have hy : y < 0 := Classical.byContradiction fun hy => h (by rw [decide_eq_false hx, decide_eq_false hy])
    have := Int.mul_nonpos_of_nonneg_of_nonpos (Int.not_lt.1 hx) (Int.le_of_lt hy)
    omega
theorem prod_bd {x y : Int} (hx : -1125899906842624 ≤ x ∧ x ≤ 1125899906842624) (hy : -1125899906842624 ≤ y ∧ y ≤ 1125899906842624) : (x * y).natAbs ≤ 1267650600228229401496703205376 := by
  rw [Int.natAbs_mul]
  have h := Nat.mul_le_mul (show x.natAbs ≤ 1125899906842624 by omega) (show y.natAbs ≤ 1125899906842624 by omega)
  omega
/-- what small returns -/
def smN (x : Int) : Int := if -1125899906842624 ≤ x ∧ x ≤ 1125899906842624 then x else 0
def smB (x : Int) : Bool := decide (-1125899906842624 ≤ x ∧ x ≤ 1125899906842624)
end
-- part: Wdw
section
open Go.RowKit
set_option linter.unusedVariables false

def carN (x y : Int) : Nat := (loN (rs x) + loN (rs y) + 0) / 18446744073709551616
def borN (x : Int) : Nat := if 0 < loN (rs x) + 0 then 1 else 0
theorem run_addlo (x y : Int) (w : World) : (callFunc 67 #[.int .u64 ((loN (rs x) : Nat) : Int), .int .u64 ((loN (rs y) : Nat) : Int), .int .u64 0]).run Tryz.prog w = .ok (.value (.tuple #[.int .u64 ((loN (rs (x + y)) : Nat) : Int), .int .u64 ((carN x y : Nat) : Int)])) w := by
  have h1 := add_lo x y
  have h2 : carN x y = (loN (rs x) + loN (rs y) + 0) / 18446744073709551616 := rfl
  show (callFunc 67 #[.int .u64 ((loN (rs x) : Nat) : Int), .int .u64 ((loN (rs y) : Nat) : Int), .int .u64 ((0 : Nat) : Int)]).run Tryz.prog w = _
  rw [run_callFunc_extern Tryz.func67 (by kernel_rfl) (by kernel_rfl) (by kernel_rfl) (e := add64Entry) (by kernel_rfl), run_add64 _ _ _ (by omega) (by omega) (by omega) (by omega)]
  have e1 : ((loN (rs x) : Nat) + (loN (rs y) : Nat) + ((0 : Nat) : Int)) % 18446744073709551616 = ((loN (rs (x + y)) : Nat) : Int) := by omega
  have e2 : ((loN (rs x) : Nat) + (loN (rs y) : Nat) + ((0 : Nat) : Int)) / 18446744073709551616 = ((carN x y : Nat) : Int) := by omega
  rw [e1, e2]
  rfl
theorem run_addhi (x y : Int) (w : World) : ∃ u : Int, (callFunc 67 #[.int .u64 ((hiN (rs x) : Nat) : Int), .int .u64 ((hiN (rs y) : Nat) : Int), .int .u64 ((carN x y : Nat) : Int)]).run Tryz.prog w = .ok (.value (.tuple #[.int .u64 ((hiN (rs (x + y)) : Nat) : Int), .int .u64 u])) w := by
  have hc : carN x y ≤ 1 := add_car x y
  have h1 : (hiN (rs x) + hiN (rs y) + carN x y) % 18446744073709551616 = hiN (rs (x + y)) := add_hi x y
  refine ⟨((hiN (rs x) : Nat) + (hiN (rs y) : Nat) + (carN x y : Nat) : Int) / 18446744073709551616, ?_⟩
  rw [run_callFunc_extern Tryz.func67 (by kernel_rfl) (by kernel_rfl) (by kernel_rfl) (e := add64Entry) (by kernel_rfl), run_add64 _ _ _ (by omega) (by omega) (by omega) (by omega)]
  have e1 : ((hiN (rs x) : Nat) + (hiN (rs y) : Nat) + (carN x y : Nat) : Int) % 18446744073709551616 = ((hiN (rs (x + y)) : Nat) : Int) := by omega
  rw [e1]
  rfl
theorem run_neglo (x : Int) (w : World) : (callFunc 101 #[.int .u64 0, .int .u64 ((loN (rs x) : Nat) : Int), .int .u64 0]).run Tryz.prog w = .ok (.value (.tuple #[.int .u64 ((loN (rs (-x)) : Nat) : Int), .int .u64 ((borN x : Nat) : Int)])) w := by
  show (callFunc 101 #[.int .u64 ((0 : Nat) : Int), .int .u64 ((loN (rs x) : Nat) : Int), .int .u64 ((0 : Nat) : Int)]).run Tryz.prog w = _
  rw [run_callFunc_extern Tryz.func101 (by kernel_rfl) (by kernel_rfl) (by kernel_rfl) (e := sub64Entry) (by kernel_rfl), run_sub64 0 _ 0 (by omega)]
  simp only [Result.andThen]
  rw [neg_lo]
  rfl
theorem run_neghi (x : Int) (w : World) : ∃ u : Int, (callFunc 101 #[.int .u64 0, .int .u64 ((hiN (rs x) : Nat) : Int), .int .u64 ((borN x : Nat) : Int)]).run Tryz.prog w = .ok (.value (.tuple #[.int .u64 ((hiN (rs (-x)) : Nat) : Int), .int .u64 u])) w := by
  have hc : borN x ≤ 1 := neg_bor x
  have h1 : (0 + 18446744073709551616 - hiN (rs x) - borN x) % 18446744073709551616 = hiN (rs (-x)) := neg_hi x
  refine ⟨((if 0 < hiN (rs x) + borN x then 1 else 0 : Nat) : Int), ?_⟩
  rw [← h1]
  show (callFunc 101 #[.int .u64 ((0 : Nat) : Int), .int .u64 ((hiN (rs x) : Nat) : Int), .int .u64 ((borN x : Nat) : Int)]).run Tryz.prog w = _
  rw [run_callFunc_extern Tryz.func101 (by kernel_rfl) (by kernel_rfl) (by kernel_rfl) (e := sub64Entry) (by kernel_rfl), run_sub64 0 _ _ hc]
  rfl
theorem info_wide : (Tryz.prog.info? 75).map (·.size) = some 2 := by kernel_rfl
set_option maxHeartbeats 1000000 in
theorem wadd_any (x y : Int) (w : World) :
    Calls Tryz.prog 40 #[.agg #[.int .u64 ((hiN (rs x) : Nat) : Int), .int .u64 ((loN (rs x) : Nat) : Int)], .agg #[.int .u64 ((hiN (rs y) : Nat) : Int), .int .u64 ((loN (rs y) : Nat) : Int)]] w fun e w' => e = .returned (.agg #[.int .u64 ((hiN (rs (x + y)) : Nat) : Int), .int .u64 ((loN (rs (x + y)) : Nat) : Int)]) ∧ Below w.heap.size w w' := by
  have hW : ∀ (c1 c2 c3 c4 : Int) W, W = (((w.alloc (.cells #[.int .u64 c1, .int .u64 c2] 75)).alloc (.cells #[.int .u64 c3, .int .u64 c4] 75)).alloc (.cells #[.int .u64 0, .int .u64 0] 75)) → Arr W w.heap.size 75 [.int .u64 c1, .int .u64 c2] ∧ Arr W (w.heap.size + 1) 75 [.int .u64 c3, .int .u64 c4] ∧ Arr W (w.heap.size + 2) 75 [.int .u64 0, .int .u64 0] ∧ Below w.heap.size w W ∧ W.heap.size = w.heap.size + 3 := by
    intro c1 c2 c3 c4 W hW
    subst hW
    exact ⟨((Arr.new _ _ [_, _]).alloc _).alloc _, (Arr.newAt (w.alloc _) _ [_, _] _ (by simp)).alloc _, Arr.newAt ((w.alloc _).alloc _) _ [_, _] _ (by simp), (((Below.refl _ _).alloc (Nat.le_refl _) _).alloc (by simp) _).alloc (by simp <;> omega) _, by simp⟩
  have HLO := Lib.hid (run_addlo x y)
  have HHI := Lib.hid (run_addhi x y)
  generalize hiN (rs x) = a1 at *
  generalize loN (rs x) = a2 at *
  generalize hiN (rs y) = a3 at *
  generalize loN (rs y) = a4 at *
  generalize hiN (rs (x + y)) = a5 at *
  generalize loN (rs (x + y)) = a6 at *
  generalize carN x y = a7 at *
  replace hW := hW a1 a2 a3 a4
  go_enter Tryz.func40, Tryz.ntmps40
  go_upto_region 1 with fail
  generalize (((w.alloc (.cells #[.int .u64 (a1 : Int), .int .u64 (a2 : Int)] 75)).alloc (.cells #[.int .u64 (a3 : Int), .int .u64 (a4 : Int)] 75)).alloc (.cells #[.int .u64 0, .int .u64 0] 75)) = w3 at hW ⊢
  obtain ⟨qx, qy, qr, hb3, hs3⟩ := hW w3 rfl
  clear hW
  have x0 := qx.cell 0
  have x1 := qx.cell 1
  have y0 := qy.cell 0
  have y1 := qy.cell 1
  have f0 := qr.frozen 0
  have f1 := qr.frozen 1
  have r0 := qr.cell 0
  have r1 := qr.cell 1
  obtain ⟨u, hu⟩ := HHI.out w3
  have hl := HLO.out w3
  have hres := Lib.hid ((qr.set 0 (.int .u64 (a5 : Int))).set 1 (.int .u64 (a6 : Int)))
  have HB := Lib.hid ((hb3.setCell (p := ⟨w.heap.size + 2, 0, none⟩) (by show w.heap.size ≤ w.heap.size + 2; omega) (.int .u64 (a5 : Int))).setCell (p := ⟨w.heap.size + 2, 1, none⟩) (by show w.heap.size ≤ w.heap.size + 2; omega) (.int .u64 (a6 : Int)))
  clear qx qy qr hb3 hs3 HLO HHI
  go_wp2_with fail
  refine bodyPost_ret (v := .agg #[.int .u64 (a5 : Int), .int .u64 (a6 : Int)]) (results_c Tryz.results40 _ _ (w.heap.size + 2) 75 _ _ rfl hres.out Tryz.underlying75 rfl info_wide) rfl ?_
  exact ⟨rfl, HB.out⟩
set_option maxHeartbeats 1000000 in
theorem wneg_any (x : Int) (w : World) :
    Calls Tryz.prog 87 #[.agg #[.int .u64 ((hiN (rs x) : Nat) : Int), .int .u64 ((loN (rs x) : Nat) : Int)]] w fun e w' => e = .returned (.agg #[.int .u64 ((hiN (rs (-x)) : Nat) : Int), .int .u64 ((loN (rs (-x)) : Nat) : Int)]) ∧ Below w.heap.size w w' := by
  have hW : ∀ (c1 c2 : Int) W, W = ((w.alloc (.cells #[.int .u64 c1, .int .u64 c2] 75)).alloc (.cells #[.int .u64 0, .int .u64 0] 75)) → Arr W w.heap.size 75 [.int .u64 c1, .int .u64 c2] ∧ Arr W (w.heap.size + 1) 75 [.int .u64 0, .int .u64 0] ∧ Below w.heap.size w W ∧ W.heap.size = w.heap.size + 2 := by
    intro c1 c2 W hW
    subst hW
    exact ⟨(Arr.new _ _ [_, _]).alloc _, Arr.newAt (w.alloc _) _ [_, _] _ (by simp), ((Below.refl _ _).alloc (Nat.le_refl _) _).alloc (by simp) _, by simp⟩
  have HLO := Lib.hid (run_neglo x)
  have HHI := Lib.hid (run_neghi x)
  generalize hiN (rs x) = a1 at *
  generalize loN (rs x) = a2 at *
  generalize hiN (rs (-x)) = a5 at *
  generalize loN (rs (-x)) = a6 at *
  generalize borN x = a7 at *
  replace hW := hW a1 a2
  go_enter Tryz.func87, Tryz.ntmps87
  go_upto_region 1 with fail
  generalize ((w.alloc (.cells #[.int .u64 (a1 : Int), .int .u64 (a2 : Int)] 75)).alloc (.cells #[.int .u64 0, .int .u64 0] 75)) = w3 at hW ⊢
  obtain ⟨qx, qr, hb3, hs3⟩ := hW w3 rfl
  clear hW
  have x0 := qx.cell 0
  have x1 := qx.cell 1
  have f0 := qr.frozen 0
  have f1 := qr.frozen 1
  have r0 := qr.cell 0
  have r1 := qr.cell 1
  obtain ⟨u, hu⟩ := HHI.out w3
  have hl := HLO.out w3
  have hres := Lib.hid ((qr.set 0 (.int .u64 (a5 : Int))).set 1 (.int .u64 (a6 : Int)))
  have HB := Lib.hid ((hb3.setCell (p := ⟨w.heap.size + 1, 0, none⟩) (by show w.heap.size ≤ w.heap.size + 1; omega) (.int .u64 (a5 : Int))).setCell (p := ⟨w.heap.size + 1, 1, none⟩) (by show w.heap.size ≤ w.heap.size + 1; omega) (.int .u64 (a6 : Int)))
  clear qx qr hb3 hs3 HLO HHI
  go_wp2_with fail
  refine bodyPost_ret (v := .agg #[.int .u64 (a5 : Int), .int .u64 (a6 : Int)]) (results_c Tryz.results87 _ _ (w.heap.size + 1) 75 _ _ rfl hres.out Tryz.underlying75 rfl info_wide) rfl ?_
  exact ⟨rfl, HB.out⟩
set_option maxHeartbeats 1000000 in
theorem magnitude_any (v : Int) (w : World) (h0 : -4611686018427387904 ≤ v) (h1 : v ≤ 4611686018427387904) :
    Calls Tryz.prog 86 #[.int .i64 v] w fun e w' => e = .returned (.int .u64 ((v.natAbs : Nat) : Int)) ∧ w = w' := by
  by_cases hv : v < 0
  · have e1 : IntKind.u64.wrap v = v + 18446744073709551616 := by rw [IntKind.wrap_u64]; omega
    have e2 : IntKind.u64.wrap (-(v + 18446744073709551616)) = ((v.natAbs : Nat) : Int) := by rw [IntKind.wrap_u64]; omega
    go_enter Tryz.func86, Tryz.ntmps86
    go_wp2_with fail
    go_ret
    exact ⟨rfl, rfl⟩
  · have e1 : IntKind.u64.wrap v = ((v.natAbs : Nat) : Int) := by rw [IntKind.wrap_u64]; omega
    go_enter Tryz.func86, Tryz.ntmps86
    go_wp2_with fail
    go_ret
    exact ⟨rfl, rfl⟩
/-- the result of product and small, under one name -/
def bigN (x y : Int) : Nat := x.natAbs * y.natAbs
theorem bigN_hi {x y : Int} : ((x.natAbs * y.natAbs / 18446744073709551616 : Nat) : Int) = ((hiN (bigN x y) : Nat) : Int) := rfl
theorem bigN_rs {x y : Int} (h : bigN x y < 340282366920938463463374607431768211456) : rs ((bigN x y : Nat) : Int) = bigN x y := rs_nat h
theorem bigN_same {x y : Int} (h : decide (x < 0) = decide (y < 0)) : ((bigN x y : Nat) : Int) = x * y := by unfold bigN; rw [mag_prod]; exact prod_sign h
theorem bigN_diff {x y : Int} (h : decide (x < 0) ≠ decide (y < 0)) : -((bigN x y : Nat) : Int) = x * y := by unfold bigN; rw [mag_prod]; exact prod_nsign h
set_option maxHeartbeats 1000000 in
theorem product_any (x y : Int) (w : World) (hx : -1125899906842624 ≤ x ∧ x ≤ 1125899906842624) (hy : -1125899906842624 ≤ y ∧ y ≤ 1125899906842624) :
    Calls Tryz.prog 66 #[.int .i64 x, .int .i64 y] w fun e w' => e = .returned (.agg #[.int .u64 ((hiN (rs (x * y)) : Nat) : Int), .int .u64 ((loN (rs (x * y)) : Nat) : Int)]) ∧ Below w.heap.size w w' := by
  have hbd : bigN x y < 340282366920938463463374607431768211456 := by
    have h := prod_bd hx hy
    unfold bigN; rw [mag_prod]; omega
  have hrs := bigN_rs hbd
  have HM := Lib.hid (fun W => Tryz.bits_Mul64 x.natAbs y.natAbs (by omega) (by omega) W)
  have HMX := Lib.hid (fun W => magnitude_any x W (by omega) (by omega))
  have HMY := Lib.hid (fun W => magnitude_any y W (by omega) (by omega))
  have HN := Lib.hid (fun W => wneg_any ((bigN x y : Nat) : Int) W)
  rw [hrs] at HN
  have HS := Lib.hid (fun h => show bigN x y = rs (x * y) by rw [← bigN_same (x := x) (y := y) h, hrs])
  have HD := Lib.hid (fun h => show rs (-((bigN x y : Nat) : Int)) = rs (x * y) by rw [bigN_diff (x := x) (y := y) h])
  have hW : ∀ (c1 c2 : Int) (t : TypeId) W, W = ((w.alloc (.cells #[.int .u64 0, .int .u64 0] 75)).alloc (.cells #[.int .u64 c1, .int .u64 c2] 75)) → Arr W w.heap.size 75 [.int .u64 0, .int .u64 0] ∧ Arr W (w.heap.size + 1) 75 [.int .u64 c1, .int .u64 c2] ∧ Below w.heap.size w W ∧ W.heap.size = w.heap.size + 2 := by
    intro c1 c2 t W hW
    subst hW
    exact ⟨(Arr.new _ _ [_, _]).alloc _, Arr.newAt (w.alloc _) _ [_, _] _ (by simp), ((Below.refl _ _).alloc (Nat.le_refl _) _).alloc (by simp) _, by simp⟩
  clear hrs hbd
  go_enter Tryz.func66, Tryz.ntmps66
  go_wp2_with fail
  refine (HMX.out _).mono ?_
  rintro e w1 ⟨rfl, rfl⟩
  go_wp2_with fail
  refine (HMY.out _).mono ?_
  rintro e w1 ⟨rfl, rfl⟩
  go_wp2_with fail
  refine (HM.out _).mono ?_
  rintro e w1 ⟨rfl, rfl⟩
  clear HM HMX HMY
  rw [bigN_hi]
  have e1 : ((x.natAbs * y.natAbs % 18446744073709551616 : Nat) : Int) = ((loN (bigN x y) : Nat) : Int) := rfl
  rw [e1]
  clear e1
  go_upto_region 3 with fail
  obtain ⟨BN, hBN⟩ : ∃ B, B = bigN x y := ⟨_, rfl⟩
  rw [← hBN] at HN HS HD ⊢
  clear hBN
  have HH := Lib.hid (hW ((hiN BN : Nat) : Int) ((loN BN : Nat) : Int))
  clear hW
  have HH2 := Lib.hid (HH.out 0 _ rfl)
  clear HH
  generalize ((w.alloc (.cells #[.int .u64 0, .int .u64 0] 75)).alloc (.cells #[.int .u64 ((hiN BN : Nat) : Int), .int .u64 ((loN BN : Nat) : Int)] 75)) = w3 at HH2 ⊢
  obtain ⟨qr, qx, hb3, hs3⟩ := HH2.out
  clear HH2
  have x0 := qx.cell 0
  have x1 := qx.cell 1
  by_cases hs : decide (x < 0) = decide (y < 0)
  · have HRS := Lib.hid (HS.out hs)
    have z1 : (decide (x < 0) != decide (y < 0)) = false := by rw [hs]; simp
    have z2 : (decide (x < 0) == decide (y < 0)) = true := by rw [hs]; simp
    have f0 := qr.frozen 0
    have f1 := qr.frozen 1
    have r0 := qr.cell 0
    have r1 := qr.cell 1
    have hres := Lib.hid ((qr.set 0 (.int .u64 ((hiN BN : Nat) : Int))).set 1 (.int .u64 ((loN BN : Nat) : Int)))
    have HB := Lib.hid ((hb3.setCell (p := ⟨w.heap.size, 0, none⟩) (Nat.le_refl _) (.int .u64 ((hiN BN : Nat) : Int))).setCell (p := ⟨w.heap.size, 1, none⟩) (Nat.le_refl _) (.int .u64 ((loN BN : Nat) : Int)))
    clear HS HD HN hs hs3 hb3 qr qx
    go_wp2_with fail
    refine bodyPost_ret (v := .agg #[.int .u64 ((hiN BN : Nat) : Int), .int .u64 ((loN BN : Nat) : Int)]) (results_c Tryz.results66 _ _ w.heap.size 75 _ _ rfl hres.out Tryz.underlying75 rfl info_wide) rfl ?_
    exact ⟨by rw [HRS.out], HB.out⟩
  · have HRS := Lib.hid (HD.out hs)
    have z1 : (decide (x < 0) != decide (y < 0)) = true := by simp [hs]
    have z2 : (decide (x < 0) == decide (y < 0)) = false := by simp [hs]
    have HN3 := Lib.hid (HN.out w3)
    rw [HRS.out] at HN3
    have HQ := Lib.hid qr
    have HB3 := Lib.hid hb3
    clear HS HD HN hs hs3 hb3 qr qx HRS
    go_wp2_with fail
    refine HN3.out.mono ?_
    rintro e w4 ⟨rfl, hb4⟩
    have qr := HQ.out.below hb4 HQ.out.lt
    have hb5 := HB3.out.trans (hb4.mono HB3.out.size)
    have f0 := qr.frozen 0
    have f1 := qr.frozen 1
    have r0 := qr.cell 0
    have r1 := qr.cell 1
    have hres := Lib.hid ((qr.set 0 (.int .u64 ((hiN (rs (x * y)) : Nat) : Int))).set 1 (.int .u64 ((loN (rs (x * y)) : Nat) : Int)))
    have HB := Lib.hid ((hb5.setCell (p := ⟨w.heap.size, 0, none⟩) (Nat.le_refl _) (.int .u64 ((hiN (rs (x * y)) : Nat) : Int))).setCell (p := ⟨w.heap.size, 1, none⟩) (Nat.le_refl _) (.int .u64 ((loN (rs (x * y)) : Nat) : Int)))
    clear qr hb4 hb5 HN3 x0 x1
    go_wp2_with fail
    refine bodyPost_ret (v := .agg #[.int .u64 ((hiN (rs (x * y)) : Nat) : Int), .int .u64 ((loN (rs (x * y)) : Nat) : Int)]) (results_c Tryz.results66 _ _ w.heap.size 75 _ _ rfl hres.out Tryz.underlying75 rfl info_wide) rfl ?_
    exact ⟨rfl, HB.out⟩
end
-- part: Wsm
section
open Go.RowKit
set_option linter.unusedVariables false

theorem winfo_u64 : (Tryz.prog.info? 73).map (·.size) = some 1 := by kernel_rfl
set_option maxHeartbeats 1000000 in
theorem wsplit_any (x : Int) (w : World) (h0 : -170141183460469231731687303715884105728 < x) (h1 : x < 170141183460469231731687303715884105728) :
    Calls Tryz.prog 68 #[.agg #[.int .u64 ((hiN (rs x) : Nat) : Int), .int .u64 ((loN (rs x) : Nat) : Int)]] w fun e w' => e = .returned (.tuple #[.agg #[.int .u64 ((hiN x.natAbs : Nat) : Int), .int .u64 ((loN x.natAbs : Nat) : Int)], .bool (decide (x < 0))]) ∧ Below w.heap.size w w' := by
  have hW : ∀ (c1 c2 : Int) W, W = ((w.alloc (.cells #[.int .u64 c1, .int .u64 c2] 75)).alloc (.cells #[.int .u64 0, .int .u64 0] 75)) → Arr W w.heap.size 75 [.int .u64 c1, .int .u64 c2] ∧ Arr W (w.heap.size + 1) 75 [.int .u64 0, .int .u64 0] ∧ Below w.heap.size w W ∧ W.heap.size = w.heap.size + 2 := by
    intro c1 c2 W hW
    subst hW
    exact ⟨(Arr.new _ _ [_, _]).alloc _, Arr.newAt (w.alloc _) _ [_, _] _ (by simp), ((Below.refl _ _).alloc (Nat.le_refl _) _).alloc (by simp) _, by simp⟩
  have HN := Lib.hid (fun W => wneg_any x W)
  by_cases hx : x < 0
  · have hr : rs (-x) = x.natAbs := by rw [(rs_pos (x := -x) (by omega) (by omega)).1]; omega
    obtain ⟨g1, g2⟩ := rs_negb hx (Int.le_of_lt h0)
    have z1 : (((hiN (rs x) : Nat) : Int) / 9223372036854775808 == 1) = true := by rw [beq_iff_eq]; omega
    rw [hr] at HN
    rw [decide_eq_true hx]
    clear h0 h1 hr hx g1 g2
    generalize hiN (rs x) = a1 at *
    generalize loN (rs x) = a2 at *
    generalize hiN x.natAbs = a5 at *
    generalize loN x.natAbs = a6 at *
    replace hW := hW a1 a2
    go_enter Tryz.func68, Tryz.ntmps68
    go_upto_region 1 with fail
    generalize ((w.alloc (.cells #[.int .u64 (a1 : Int), .int .u64 (a2 : Int)] 75)).alloc (.cells #[.int .u64 0, .int .u64 0] 75)) = w3 at hW ⊢
    obtain ⟨qx, qr, hb3, hs3⟩ := hW w3 rfl
    clear hW
    have x0 := qx.cell 0
    have x1 := qx.cell 1
    have HN3 := Lib.hid (HN.out w3)
    have HQ := Lib.hid qr
    have HB3 := Lib.hid hb3
    clear HN qx qr hb3 hs3
    go_wp2_with fail
    refine HN3.out.mono ?_
    rintro e w4 ⟨rfl, hb4⟩
    have qr := HQ.out.below hb4 HQ.out.lt
    have hb3 := HB3.out.trans (hb4.mono HB3.out.size)
    clear x0 x1 hb4 HN3
    have f0 := qr.frozen 0
    have f1 := qr.frozen 1
    have r0 := qr.cell 0
    have r1 := qr.cell 1
    have hres := Lib.hid ((qr.set 0 (.int .u64 (a5 : Int))).set 1 (.int .u64 (a6 : Int)))
    have HB := Lib.hid ((hb3.setCell (p := ⟨w.heap.size + 1, 0, none⟩) (by show w.heap.size ≤ w.heap.size + 1; omega) (.int .u64 (a5 : Int))).setCell (p := ⟨w.heap.size + 1, 1, none⟩) (by show w.heap.size ≤ w.heap.size + 1; omega) (.int .u64 (a6 : Int)))
    clear qr hb3
    go_wp2_with fail
    refine bodyPost_ret (v := .tuple #[.agg #[.int .u64 (a5 : Int), .int .u64 (a6 : Int)], .bool true]) (results_ct Tryz.results68 _ _ (w.heap.size + 1) 75 _ _ rfl hres.out Tryz.underlying75 rfl info_wide) rfl ?_
    exact ⟨rfl, HB.out⟩
  · obtain ⟨hr, g1⟩ := rs_pos (x := x) (by omega) h1
    have hr2 : rs x = x.natAbs := by omega
    have z1 : (((hiN (rs x) : Nat) : Int) / 9223372036854775808 == 1) = false := by rw [beq_eq_false_iff_ne]; omega
    rw [decide_eq_false hx]
    rw [hr2] at z1 ⊢
    clear h0 h1 hr hx g1 HN hr2
    generalize hiN x.natAbs = a1 at *
    generalize loN x.natAbs = a2 at *
    replace hW := hW a1 a2
    go_enter Tryz.func68, Tryz.ntmps68
    go_upto_region 1 with fail
    generalize ((w.alloc (.cells #[.int .u64 (a1 : Int), .int .u64 (a2 : Int)] 75)).alloc (.cells #[.int .u64 0, .int .u64 0] 75)) = w3 at hW ⊢
    obtain ⟨qx, qr, hb3, hs3⟩ := hW w3 rfl
    clear hW
    have x0 := qx.cell 0
    have x1 := qx.cell 1
    have f0 := qr.frozen 0
    have f1 := qr.frozen 1
    have r0 := qr.cell 0
    have r1 := qr.cell 1
    have hres := Lib.hid ((qr.set 0 (.int .u64 (a1 : Int))).set 1 (.int .u64 (a2 : Int)))
    have HB := Lib.hid ((hb3.setCell (p := ⟨w.heap.size + 1, 0, none⟩) (by show w.heap.size ≤ w.heap.size + 1; omega) (.int .u64 (a1 : Int))).setCell (p := ⟨w.heap.size + 1, 1, none⟩) (by show w.heap.size ≤ w.heap.size + 1; omega) (.int .u64 (a2 : Int)))
    clear qr hb3
    go_wp2_with fail
    refine bodyPost_ret (v := .tuple #[.agg #[.int .u64 (a1 : Int), .int .u64 (a2 : Int)], .bool false]) (results_ct Tryz.results68 _ _ (w.heap.size + 1) 75 _ _ rfl hres.out Tryz.underlying75 rfl info_wide) rfl ?_
    exact ⟨rfl, HB.out⟩
theorem hiN_small {a : Nat} (h : a ≤ 1125899906842624) : hiN a = 0 ∧ loN a = a := by unfold hiN loN; omega
theorem hiN_great {a : Nat} (h : 1125899906842624 < a) : hiN a ≠ 0 ∨ (hiN a = 0 ∧ 1125899906842624 < loN a) := by unfold hiN loN; omega
set_option maxHeartbeats 1000000 in
theorem wsmall_any (x : Int) (w : World) (h0 : -170141183460469231731687303715884105728 < x) (h1 : x < 170141183460469231731687303715884105728) :
    Calls Tryz.prog 41 #[.agg #[.int .u64 ((hiN (rs x) : Nat) : Int), .int .u64 ((loN (rs x) : Nat) : Int)]] w fun e w' => e = .returned (.tuple #[.int .i64 (smN x), .bool (smB x)]) ∧ Below w.heap.size w w' := by
  have hW : ∀ (c1 c2 : Int) W, W = (w.alloc (.cells #[.int .u64 c1, .int .u64 c2] 75)) → Arr W w.heap.size 75 [.int .u64 c1, .int .u64 c2] ∧ Below w.heap.size w W ∧ W.heap.size = w.heap.size + 1 := by
    intro c1 c2 W hW
    subst hW
    exact ⟨(Arr.new _ _ [_, _]), ((Below.refl _ _).alloc (Nat.le_refl _) _), by simp⟩
  have HSP := Lib.hid (fun W => wsplit_any x W h0 h1)
  have HCS := Lib.hid (show (x.natAbs ≤ 1125899906842624 ∧ hiN x.natAbs = 0 ∧ loN x.natAbs = x.natAbs ∧ smN x = x ∧ smB x = true) ∨ (hiN x.natAbs ≠ 0 ∧ smN x = 0 ∧ smB x = false) ∨ (hiN x.natAbs = 0 ∧ 1125899906842624 < loN x.natAbs ∧ smN x = 0 ∧ smB x = false) by
    by_cases h : x.natAbs ≤ 1125899906842624
    · have := hiN_small h
      have h2 : -1125899906842624 ≤ x ∧ x ≤ 1125899906842624 := by omega
      exact .inl ⟨h, this.1, this.2, by unfold smN; rw [if_pos h2], decide_eq_true h2⟩
    · have h2 : ¬ (-1125899906842624 ≤ x ∧ x ≤ 1125899906842624) := by omega
      have h3 : smN x = 0 ∧ smB x = false := ⟨by unfold smN; rw [if_neg h2], decide_eq_false h2⟩
      rcases hiN_great (Nat.lt_of_not_le h) with q | q
      · exact .inr (.inl ⟨q, h3⟩)
      · exact .inr (.inr ⟨q.1, q.2, h3⟩))
  have HXA := Lib.hid (show (x < 0 → -((x.natAbs : Nat) : Int) = x) ∧ (0 ≤ x → ((x.natAbs : Nat) : Int) = x) from ⟨fun _ => by omega, fun _ => by omega⟩)
  clear h0 h1
  generalize hiN (rs x) = a1 at *
  generalize loN (rs x) = a2 at *
  replace hW := hW a1 a2
  go_enter Tryz.func41, Tryz.ntmps41
  go_upto_region 1 with fail
  generalize (w.alloc (.cells #[.int .u64 (a1 : Int), .int .u64 (a2 : Int)] 75)) = w3 at hW ⊢
  obtain ⟨qx, hb3, hs3⟩ := hW w3 rfl
  clear hW
  have x0 := qx.cell 0
  have x1 := qx.cell 1
  have HSP3 := Lib.hid (HSP.out w3)
  have HB3 := Lib.hid hb3
  clear HSP qx hb3 hs3
  go_wp2_with fail
  refine HSP3.out.mono ?_
  rintro e w4 ⟨rfl, hb4⟩
  have HB4 := Lib.hid (HB3.out.trans (hb4.mono HB3.out.size))
  clear hb4 HSP3 x0 x1 HB3
  rcases HCS.out with ⟨g1, g2, g3, g4, g5⟩ | ⟨g1, g2, g3⟩ | ⟨g1, g2, g3, g4⟩
  · have HG4 := Lib.hid g4
    have HG5 := Lib.hid g5
    rw [g2, g3]
    clear g2 g3 g4 g5 HCS
    by_cases hx : x < 0
    · have HE := Lib.hid (HXA.out.1 hx)
      have zx : decide (x < 0) = true := decide_eq_true hx
      clear HXA
      generalize x.natAbs = a at *
      go_wp2_with fail
      go_ret2
      exact ⟨by rw [HG4.out, HG5.out, ← HE.out]; rfl, HB4.out.alloc HB4.out.size _⟩
    · have HE := Lib.hid (HXA.out.2 (by omega))
      have zx : decide (x < 0) = false := decide_eq_false hx
      clear HXA
      generalize x.natAbs = a at *
      go_wp2_with fail
      go_ret2
      exact ⟨by rw [HG4.out, HG5.out, ← HE.out]; rfl, HB4.out.alloc HB4.out.size _⟩
  · have HG4 := Lib.hid g2
    have HG5 := Lib.hid g3
    have z1 : (((hiN x.natAbs : Nat) : Int) != 0) = true := by simp; omega
    have z2 : (((hiN x.natAbs : Nat) : Int) == 0) = false := by simp; omega
    clear g1 g2 g3 HCS HXA
    go_wp2_with fail
    go_ret2
    exact ⟨by rw [HG4.out, HG5.out]; rfl, HB4.out.alloc HB4.out.size _⟩
  · have HG4 := Lib.hid g3
    have HG5 := Lib.hid g4
    rw [g1]
    have z1 : (1125899906842624 : Int) < ((loN x.natAbs : Nat) : Int) := by omega
    clear g1 g2 g3 g4 HCS HXA
    go_wp2_with fail
    go_ret2
    exact ⟨by rw [HG4.out, HG5.out]; rfl, HB4.out.alloc HB4.out.size _⟩
end
end Go.Proofs.YtjeklcgfffibpaaGreatDoor

namespace Go.Proofs.YtjeklcgfffibpaaGreatDoor
set_option linter.unusedVariables false

/-- the coefficients of the product of a function and a list of terms -/
def cvF (F : Int → Int) : List (Int × Int) → Int → Int
  | [], _ => 0
  | t :: q, e => t.2 * F (e - t.1) + cvF F q e
/-- the coefficients of the product of two lists of terms -/
def cv (p q : List (Int × Int)) (e : Int) : Int := cvF (cf p) q e
/-- the products of the terms, in order -/
def prs : List (Int × Int) → List (Int × Int) → List (Int × Int)
  | [], _ => []
  | s :: p, q => (q.map fun t => (s.1 + t.1, s.2 * t.2)) ++ prs p q
theorem cvF_add (F G : Int → Int) (q : List (Int × Int)) (e : Int) : cvF (fun x => F x + G x) q e = cvF F q e + cvF G q e := by
  induction q with
  | nil => rfl
  | cons t q ih => simp only [cvF]; rw [ih, Int.mul_add]; omega
theorem cvF_zero (q : List (Int × Int)) (e : Int) : cvF (fun _ => 0) q e = 0 := by
  induction q with
  | nil => rfl
  | cons t q ih => simp only [cvF]; rw [ih]; simp
theorem cvF_congr {F G : Int → Int} (h : ∀ x, F x = G x) (q : List (Int × Int)) (e : Int) : cvF F q e = cvF G q e := by rw [show F = G from funext h]
theorem cvF_shift (F : Int → Int) (d : Int) (q : List (Int × Int)) (e : Int) : cvF (fun x => F (x - d)) q e = cvF F q (e - d) := by
  induction q with
  | nil => rfl
  | cons t q ih => simp only [cvF]; rw [ih, show e - t.1 - d = e - d - t.1 by omega]
theorem cvF_single (s : Int × Int) (q : List (Int × Int)) (e : Int) : cvF (fun x => if s.1 = x then s.2 else 0) q e = s.2 * cf q (e - s.1) := by
  induction q with
  | nil => simp [cvF, cf]
  | cons t q ih =>
    simp only [cvF]
    rw [ih, cf_cons, Int.mul_add]
    by_cases h : s.1 = e - t.1
    · rw [if_pos h, if_pos (by omega), Int.mul_comm]
    · rw [if_neg h, if_neg (by omega), Int.mul_zero, Int.mul_zero]
theorem cv_nil (q : List (Int × Int)) (e : Int) : cv [] q e = 0 := cvF_zero q e
theorem cv_cons (s : Int × Int) (p q : List (Int × Int)) (e : Int) : cv (s :: p) q e = s.2 * cf q (e - s.1) + cv p q e := by
  unfold cv
  rw [show cf (s :: p) = fun x => (if s.1 = x then s.2 else 0) + cf p x from rfl, cvF_add, cvF_single]
theorem cv_right_nil (p : List (Int × Int)) (e : Int) : cv p [] e = 0 := rfl
theorem cv_comm (p q : List (Int × Int)) (e : Int) : cv p q e = cv q p e := by
  induction p with
  | nil => rw [cv_nil]; rfl
  | cons s p ih => rw [cv_cons, ih]; rfl
theorem cv_congr {p p' q q' : List (Int × Int)} (h : ∀ x, cf p x = cf p' x) (k : ∀ x, cf q x = cf q' x) (e : Int) : cv p q e = cv p' q' e := by
  unfold cv
  rw [cvF_congr h]
  show cv p' q e = cv p' q' e
  rw [cv_comm, cv_comm p']
  exact cvF_congr k p' e
theorem cf_mulmap (s : Int × Int) (q : List (Int × Int)) (e : Int) : cf (q.map fun t => (s.1 + t.1, s.2 * t.2)) e = s.2 * cf q (e - s.1) := by
  induction q with
  | nil => simp [cf]
  | cons t q ih =>
    rw [List.map_cons, cf_cons, cf_cons, ih, Int.mul_add]
    by_cases h : t.1 = e - s.1
    · rw [if_pos h, if_pos (by show s.1 + t.1 = e; omega)]
    · rw [if_neg h, if_neg (by show ¬ s.1 + t.1 = e; omega), Int.mul_zero]
theorem cf_prs (p q : List (Int × Int)) (e : Int) : cf (prs p q) e = cv p q e := by
  induction p with
  | nil => rw [cv_nil]; rfl
  | cons s p ih => rw [prs, cf_append, cf_mulmap, ih, cv_cons]
theorem prs_append (p p' q : List (Int × Int)) : prs (p ++ p') q = prs p q ++ prs p' q := by
  induction p with
  | nil => rfl
  | cons s p ih => rw [List.cons_append, prs, prs, ih, List.append_assoc]
theorem prs_one (s : Int × Int) (q : List (Int × Int)) : prs [s] q = q.map fun t => (s.1 + t.1, s.2 * t.2) := by rw [prs, prs, List.append_nil]
theorem prs_mem {p q : List (Int × Int)} {u : Int × Int} (h : u ∈ prs p q) : ∃ s ∈ p, ∃ t ∈ q, u = (s.1 + t.1, s.2 * t.2) := by
  induction p with
  | nil => cases h
  | cons s p ih =>
    rw [prs] at h
    rcases List.mem_append.1 h with h | h
    · obtain ⟨t, ht, rfl⟩ := List.mem_map.1 h
      exact ⟨s, List.mem_cons_self .., t, ht, rfl⟩
    · obtain ⟨s', hs, t, ht, e⟩ := ih h
      exact ⟨s', List.mem_cons_of_mem _ hs, t, ht, e⟩
theorem prs_len (p q : List (Int × Int)) : (prs p q).length = p.length * q.length := by
  induction p with
  | nil => simp [prs]
  | cons s p ih => rw [prs, List.length_append, List.length_map, ih, List.length_cons, Nat.succ_mul, Nat.add_comm]
/-- a coefficient of a product is not great -/
theorem cf_natAbs_le {l : List (Int × Int)} {B : Nat} (hb : ∀ t ∈ l, t.2.natAbs ≤ B) : ∀ e, (cf l e).natAbs ≤ B * l.length := by
  intro e
  induction l with
  | nil => simp [cf]
  | cons t l ih =>
    have h1 := hb t (List.mem_cons_self ..)
    have h2 := ih (fun s hs => hb s (List.mem_cons_of_mem _ hs))
    rw [cf_cons, List.length_cons, Nat.mul_succ]
    split <;> omega
theorem cvF_bd {F : Int → Int} {q : List (Int × Int)} {B C : Nat} (hF : ∀ x, (F x).natAbs ≤ B) (hq : ∀ t ∈ q, t.2.natAbs ≤ C) : ∀ e, (cvF F q e).natAbs ≤ C * B * q.length := by
  intro e
  induction q with
  | nil => simp [cvF]
  | cons t q ih =>
    have h1 := hq t (List.mem_cons_self ..)
    have h2 := ih (fun s hs => hq s (List.mem_cons_of_mem _ hs))
    have h3 : (t.2 * F (e - t.1)).natAbs ≤ C * B := by rw [Int.natAbs_mul]; exact Nat.mul_le_mul h1 (hF _)
    simp only [cvF]
    rw [List.length_cons, Nat.mul_succ]
    omega
theorem Lim.na {l : List (Int × Int)} (h : Lim l) : ∀ t ∈ l, t.2.natAbs ≤ 1125899906842624 := fun t ht => by have := h.co t ht; omega
/-- partial sums of products stay within 127 bits -/
theorem Lim.cvbd {p q : List (Int × Int)} (hp : Lim p) (kp : Can p) (hq : Lim q) (kq : Can q) (e : Int) : (cv p q e).natAbs ≤ 5316911983139663491615228241121378304 := by
  have h1 : ∀ x, (Go.Proofs.YtjeklcgfffibpaaGreatDoor.cf p x).natAbs ≤ 1125899906842624 := fun x => by have := hp.cf kp x; omega
  have h2 := cvF_bd h1 hq.na e
  have h3 := hq.len kq
  have h4 : 1125899906842624 * 1125899906842624 * q.length ≤ 1125899906842624 * 1125899906842624 * 2097153 := Nat.mul_le_mul_left _ h3
  unfold cv
  omega
/-- products of two terms add up to coefficients of prefixes: all partial sums are bounded -/
theorem cf_part_bd {l : List (Int × Int)} {B : Nat} (hb : ∀ t ∈ l, t.2.natAbs ≤ B) (k : Nat) (e : Int) : (cf (l.take k) e).natAbs ≤ B * l.length := by
  have h1 := cf_natAbs_le (l := l.take k) (fun t ht => hb t (List.mem_of_mem_take ht)) e
  have h2 : (l.take k).length ≤ l.length := by simp; omega
  exact Nat.le_trans h1 (Nat.mul_le_mul_left _ h2)
/-- the extreme exponents of a product -/
theorem cv_out {p q : List (Int × Int)} {a b c d e : Int} (hp : ∀ s ∈ p, a ≤ s.1 ∧ s.1 ≤ b) (hq : ∀ t ∈ q, c ≤ t.1 ∧ t.1 ≤ d) (h : e < a + c ∨ b + d < e) : cv p q e = 0 := by
  rw [← cf_prs]
  refine cf_out fun u hu => ?_
  obtain ⟨s, hs, t, ht, rfl⟩ := prs_mem hu
  have := hp s hs
  have := hq t ht
  show s.1 + t.1 ≠ e
  omega
/-- the list of the coefficients other than 0 from an exponent on -/
def dense (F : Int → Int) (low : Int) : Nat → List (Int × Int)
  | 0 => []
  | k + 1 => dense F low k ++ (if F (low + (k : Int)) = 0 then [] else [(low + (k : Int), F (low + (k : Int)))])
theorem dense_mem {F : Int → Int} {low : Int} : ∀ {k : Nat} {t : Int × Int}, t ∈ dense F low k → low ≤ t.1 ∧ t.1 < low + k ∧ t.2 = F t.1 ∧ t.2 ≠ 0
  | 0, t, h => by cases h
  | k + 1, t, h => by
    rw [dense] at h
    rcases List.mem_append.1 h with h | h
    · have := dense_mem h
      exact ⟨this.1, by omega, this.2.2⟩
    · split at h
      · cases h
      · next h0 =>
        rw [List.mem_singleton.1 h]
        exact ⟨by show low ≤ low + (k : Int); omega, by show low + (k : Int) < _; omega, rfl, h0⟩
theorem dense_can (F : Int → Int) (low : Int) : ∀ k, Can (dense F low k)
  | 0 => Can.nil
  | k + 1 => by
    rw [dense]
    split
    · rw [List.append_nil]; exact dense_can F low k
    · next h0 => exact (dense_can F low k).snoc (fun s hs => by have := dense_mem hs; show s.1 < low + (k : Int); omega) h0
theorem dense_len (F : Int → Int) (low : Int) : ∀ k, (dense F low k).length ≤ k
  | 0 => Nat.le_refl _
  | k + 1 => by
    have := dense_len F low k
    rw [dense, List.length_append]
    split <;> simp <;> omega
theorem dense_cf (F : Int → Int) (low : Int) : ∀ (k : Nat) (e : Int), cf (dense F low k) e = if low ≤ e ∧ e < low + k then F e else 0
  | 0, e => by rw [if_neg (by omega)]; rfl
  | k + 1, e => by
    rw [dense, cf_append, dense_cf F low k]
    by_cases he : low + (k : Int) = e
    · rw [if_neg (show ¬ (low ≤ e ∧ e < low + (k : Int)) by omega), if_pos (show low ≤ e ∧ e < low + ((k + 1 : Nat) : Int) by omega), Int.zero_add]
      by_cases h0 : F (low + (k : Int)) = 0
      · rw [if_pos h0, ← he, h0]; rfl
      · rw [if_neg h0, cf_one, if_pos he, he]
    · have h1 : cf (if F (low + (k : Int)) = 0 then [] else [(low + (k : Int), F (low + (k : Int)))]) e = 0 := by
        split
        · rfl
        · rw [cf_one, if_neg he]
      rw [h1, Int.add_zero]
      by_cases h2 : low ≤ e ∧ e < low + k
      · rw [if_pos h2, if_pos (by omega)]
      · rw [if_neg h2, if_neg (by omega)]
/-- the product of polynomials -/
def MulP : Pol → Pol → Pol → Prop
  | some p, some q, r => (∃ l, r = some l ∧ Can l ∧ Lim l ∧ ∀ e, cf l e = cv p q e) ∨ (r = none ∧ ((∃ e, ¬ (-1125899906842624 ≤ cv p q e ∧ cv p q e ≤ 1125899906842624)) ∨ ∃ s ∈ p, ∃ t ∈ q, s.1 + t.1 < -1048576 ∨ 1048576 < s.1 + t.1))
  | _, _, r => r = none
theorem MulP.some {p q : List (Int × Int)} {r : Pol} (h : MulP (some p) (some q) r) (h1 : ∀ e, -1125899906842624 ≤ cv p q e ∧ cv p q e ≤ 1125899906842624) (h2 : ∀ s ∈ p, ∀ t ∈ q, -1048576 ≤ s.1 + t.1 ∧ s.1 + t.1 ≤ 1048576) : ∃ l, r = Option.some l ∧ Can l ∧ Lim l ∧ ∀ e, cf l e = cv p q e := by
  rcases h with h | ⟨_, ⟨e, he⟩ | ⟨s, hs, t, ht, hh⟩⟩
  · exact h
  · exact absurd (h1 e) he
  · have := h2 s hs t ht; omega
theorem CombP.some {f : Int → Int → Int} {p q : List (Int × Int)} {r : Pol} (h : CombP f (some p) (some q) r) (h1 : ∀ e, -1125899906842624 ≤ f (cf p e) (cf q e) ∧ f (cf p e) (cf q e) ≤ 1125899906842624) : ∃ l, r = Option.some l ∧ Can l ∧ Lim l ∧ ∀ e, cf l e = f (cf p e) (cf q e) := by
  rcases h with h | ⟨_, e, he⟩
  · exact h
  · exact absurd (h1 e) he
/-- a coefficient other than 0 of the product comes from a term of each -/
theorem cv_ne {p q : List (Int × Int)} {e : Int} (h : cv p q e ≠ 0) : ∃ s ∈ p, ∃ t ∈ q, s.1 + t.1 = e := by
  rw [← cf_prs] at h
  obtain ⟨u, hu, he⟩ := cf_ne h
  obtain ⟨s, hs, t, ht, rfl⟩ := prs_mem hu
  exact ⟨s, hs, t, ht, he⟩
/-- the end of the dense product -/
theorem mul_end {p q : List (Int × Int)} {low : Int} {n : Nat} (hl : -1048576 ≤ low) (hh : low + n ≤ 1048577) (hx : ∀ s ∈ p, ∀ t ∈ q, low ≤ s.1 + t.1 ∧ s.1 + t.1 < low + n) (hb : ∀ i : Nat, i < n → -1125899906842624 ≤ cv p q (low + i) ∧ cv p q (low + i) ≤ 1125899906842624) : MulP (some p) (some q) (some (dense (cv p q) low n)) := by
  refine .inl ⟨_, rfl, dense_can _ _ _, ⟨fun t ht => ?_, fun t ht => ?_⟩, fun e => ?_⟩
  · have h1 := dense_mem ht
    have h2 := hb (t.1 - low).toNat (by omega)
    rw [show low + ((t.1 - low).toNat : Int) = t.1 by omega] at h2
    rw [h1.2.2.1]; exact h2
  · have h1 := dense_mem ht
    omega
  · rw [dense_cf]
    by_cases h : low ≤ e ∧ e < low + n
    · rw [if_pos h]
    · rw [if_neg h]
      refine (Classical.byContradiction fun hn => ?_)
      obtain ⟨s, hs, t, ht, he⟩ := cv_ne (fun k => hn k.symm)
      have := hx s hs t ht
      omega
theorem mul_bad {p q : List (Int × Int)} {e : Int} (h : ¬ (-1125899906842624 ≤ cv p q e ∧ cv p q e ≤ 1125899906842624)) : MulP (some p) (some q) none := .inr ⟨rfl, .inl ⟨e, h⟩⟩
end Go.Proofs.YtjeklcgfffibpaaGreatDoor
