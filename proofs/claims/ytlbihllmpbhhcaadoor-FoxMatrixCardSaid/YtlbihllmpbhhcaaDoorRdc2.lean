/- unravelref12.Decimal. -/
import Derived.Test.YtlbihllmpbhhcaaDoorBase2
import Derived.Test.YtlbihllmpbhhcaaDoorChecked
import Derived.Lib.ItoaLen
import Derived.Laws.Concat
import Derived.Outline
import Derived.Deep.CutBlock
namespace Go.Proofs.YtlbihllmpbhhcaaDoor
open Go.RowKit
set_option linter.unusedVariables false

set_option maxRecDepth 100000 in
theorem run_digit (r : Nat) (h : r < 10) (w : World) : Sem.run Tryd.prog (Instr.slice 9 (.string ⟨#[48, 49, 50, 51, 52, 53, 54, 55, 56, 57]⟩) (some (.int .i64 (r : Int))) (some (.int .i64 ((r : Int) + 1))) none) w = .ok (.string ⟨(Lib.decDigits r).toArray⟩) w := by
  rw [Lib.decDigits, dif_pos h]
  rcases (by omega : r = 0 ∨ r = 1 ∨ r = 2 ∨ r = 3 ∨ r = 4 ∨ r = 5 ∨ r = 6 ∨ r = 7 ∨ r = 8 ∨ r = 9) with rfl | rfl | rfl | rfl | rfl | rfl | rfl | rfl | rfl | rfl <;> kernel_rfl
set_option maxHeartbeats 1000000 in
set_option maxRecDepth 100000 in
theorem decN_ref (u : Nat) : ∀ (w : World), u < 4611686018427387904 →
    Calls Tryd.prog 39 #[.int .i64 (u : Int)] w fun e w' => e = .returned (.string ⟨(Lib.decDigits u).toArray⟩) ∧ Below w.heap.size w w' := by
  induction u using Nat.strongRecOn with
  | _ u ih =>
    intro w hu
    have IH := Lib.hid ih
    clear ih
    have hz : ¬ (u : Int) < 0 := by omega
    have hm : (u : Int).tmod 10 = ((u % 10 : Nat) : Int) := by rw [Int.tmod_eq_emod_of_nonneg (by omega)]; omega
    have hq : (u : Int).tdiv 10 = ((u / 10 : Nat) : Int) := by rw [Int.tdiv_eq_ediv_of_nonneg (by omega)]; omega
    obtain ⟨r, hr⟩ : ∃ r, r = u % 10 := ⟨_, rfl⟩
    obtain ⟨q, hq2⟩ : ∃ q, q = u / 10 := ⟨_, rfl⟩
    have hr9 : r < 10 := by omega
    rw [← hr] at hm
    rw [← hq2] at hq
    have HR := Lib.hid hr
    have HQ := Lib.hid hq2
    clear hr hq2
    have z9 : (r : Int) < 10 := by omega
    have z8 : (r : Int) + 1 ≤ 10 := by omega
    have hsl := fun W => run_digit r hr9 W
    by_cases h10 : u < 10
    · have z1 : (u : Int) < 10 := by omega
      go_enter Tryd.func39, Tryd.ntmps39
      go_wp2_with fail
      go_ret
      exact ⟨by rw [HR.out, Nat.mod_eq_of_lt h10]; rfl, Below.refl _ _⟩
    · have z1 : ¬ (u : Int) < 10 := by omega
      have hq3 : q < u := by have := HQ.out; omega
      have HI := Lib.hid (IH.out q hq3 w (by omega))
      have HD := Lib.hid (show Lib.decDigits u = Lib.decDigits q ++ Lib.decDigits r from by
        rw [Lib.decDigits, dif_neg h10, HQ.out, HR.out]
        congr 1
        rw [Lib.decDigits, dif_pos (by omega)])
      have hwq : wrap64 (q : Int) = (q : Int) := IntWalk.wrap64_in _ (by omega)
      have hl1 : (Lib.decDigits q).length ≤ 20 := by rw [Lib.decDigits_length]; exact Lib.nDigits_le20 _ (by clear hwq hq; omega)
      clear hq3
      have hl2 : (Lib.decDigits r).length ≤ 20 := by rw [Lib.decDigits_length]; exact Lib.nDigits_le20 _ (by omega)
      go_enter Tryd.func39, Tryd.ntmps39
      go_wp2_with (go_at_call 39; refine HI.out.mono ?_; rintro e w1 ⟨rfl, hb1⟩)
      go_ret
      exact ⟨by rw [HD.out, ← ByteArray.mk_append_mk]; rfl, hb1⟩
set_option maxHeartbeats 1000000 in
set_option maxRecDepth 100000 in
theorem dec_ref (n : Int) (w : World) (h : -2305843009213693952 ≤ n ∧ n ≤ 2305843009213693952) :
    Calls Tryd.prog 39 #[.int .i64 n] w fun e w' => e = .returned (.string ⟨(Lib.itoa n).toArray⟩) ∧ Below w.heap.size w w' := by
  by_cases h0 : n < 0
  · obtain ⟨u, rfl⟩ : ∃ u : Nat, n = -(u : Int) := ⟨n.natAbs, by omega⟩
    have HI := Lib.hid (decN_ref u w (by omega))
    have HD := Lib.hid (show Lib.itoa (-(u : Int)) = 45 :: Lib.decDigits u from by unfold Lib.itoa; rw [if_pos h0]; simp)
    have z1 : - -(u : Int) = (u : Int) := by omega
    have hl1 : (Lib.decDigits u).length ≤ 20 := by rw [Lib.decDigits_length]; exact Lib.nDigits_le20 _ (by omega)
    have z2 : 0 < u := by omega
    go_enter Tryd.func39, Tryd.ntmps39
    go_wp2_with (go_at_call 39; refine HI.out.mono ?_; rintro e w1 ⟨rfl, hb1⟩)
    go_ret
    exact ⟨by rw [HD.out, show (45 :: Lib.decDigits u) = [45] ++ Lib.decDigits u from rfl, ← ByteArray.mk_append_mk]; rfl, hb1⟩
  · obtain ⟨u, rfl⟩ : ∃ u : Nat, n = (u : Int) := ⟨n.toNat, by omega⟩
    have := decN_ref u w (by omega)
    unfold Lib.itoa
    rw [if_neg h0]
    simpa using this
end Go.Proofs.YtlbihllmpbhhcaaDoor
