/- bivariate: within, sum.plus, sum.small. -/
import Derived.Test.YtnmidhlghhephaaGreatDoorWwPsu
import Derived.BigQuiet
import Derived.Deep.CutBlock
import Derived.Outline
import Derived.Deep.QuietTactic
namespace Go.Proofs.YtnmidhlghhephaaGreatDoor
open Go.RowKit
set_option linter.unusedVariables false
theorem bwithin_any (v l : Int) (w : World) (h0 : 0 ≤ l) (h1 : l ≤ 1125899906842624) : Calls Tryz.prog 18 #[.int .i64 v, .int .i64 l] w fun e w' => e = .returned (.bool (wiB v l)) ∧ w = w' := by
  by_cases a : -l ≤ v
  · by_cases b : v ≤ l
    · have hf := Lib.hid (show wiB v l = true from decide_eq_true ⟨a, b⟩)
      go_enter Tryz.func18, Tryz.ntmps18
      go_wp2_with fail
      go_ret
      exact ⟨by rw [hf.out]; rfl, rfl⟩
    · have hf := Lib.hid (show wiB v l = false from decide_eq_false fun h => b h.2)
      go_enter Tryz.func18, Tryz.ntmps18
      go_wp2_with fail
      go_ret
      exact ⟨by rw [hf.out]; rfl, rfl⟩
  · have hf := Lib.hid (show wiB v l = false from decide_eq_false fun h => a h.1)
    go_enter Tryz.func18, Tryz.ntmps18
    go_wp2_with fail
    go_ret
    exact ⟨by rw [hf.out]; rfl, rfl⟩
theorem and25 (n : Int) : bits .and .i64 n 33554431 = n % 33554432 := by
  have h127 : (BitVec.ofInt 64 33554431).toNat = 2 ^ 25 - 1 := by decide
  have key : (BitVec.ofInt 64 n &&& BitVec.ofInt 64 33554431).toNat = (n % ((2 ^ 64 : Nat) : Int)).toNat % 2 ^ 25 := by
    rw [BitVec.toNat_and, BitVec.toNat_ofInt, h127, Nat.and_two_pow_sub_one_eq_mod]
  show IntKind.i64.wrap ((BitVec.ofInt 64 n &&& BitVec.ofInt 64 33554431).toNat : Nat) = n % 33554432
  rw [key, IntKind.wrap_i64]
  omega
theorem info_sumB : (Tryz.prog.info? 74).map (·.size) = some 2 := by kernel_rfl
set_option maxHeartbeats 1000000 in
theorem splus_any (h l v : Int) (w : World) (hh : -1000000000000000000 ≤ h ∧ h ≤ 1000000000000000000) (hl : -1000000000000000000 ≤ l ∧ l ≤ 1000000000000000000) (hv : -9223372036854775808 ≤ v ∧ v ≤ 9223372036854775807) :
    Calls Tryz.prog 38 #[.agg #[.int .i64 h, .int .i64 l], .int .i64 v] w fun e w' => e = .returned (.agg #[.int .i64 (h + v / 33554432), .int .i64 (l + v % 33554432)]) ∧ Below w.heap.size w w' := by
  have hm : 0 ≤ v % 33554432 ∧ v % 33554432 < 33554432 := by omega
  have hb : wrap64 (l + bits .and .i64 v 33554431) = l + v % 33554432 := by rw [and25]; exact IntWalk.wrap64_in _ (by omega)
  have hW : ∀ W, W = (w.alloc (.cells #[.int .i64 h, .int .i64 l] 74)).alloc (.cells #[.int .i64 0, .int .i64 0] 74) → Arr W w.heap.size 74 [.int .i64 h, .int .i64 l] ∧ Arr W (w.heap.size + 1) 74 [.int .i64 0, .int .i64 0] ∧ Below w.heap.size w W := by
    intro W hW
    subst hW
    exact ⟨(Arr.new _ _ [_, _]).alloc _, Arr.newAt (w.alloc _) _ [_, _] _ (by simp), ((Below.refl _ _).alloc (Nat.le_refl _) _).alloc (by simp) _⟩
  go_enter Tryz.func38, Tryz.ntmps38
  go_upto_region 1 with fail
  generalize (w.alloc (.cells #[.int .i64 h, .int .i64 l] 74)).alloc (.cells #[.int .i64 0, .int .i64 0] 74) = w3 at hW ⊢
  obtain ⟨q1, qr, hb3⟩ := hW w3 rfl
  clear hW
  have y0 := q1.cell 0
  have y1 := q1.cell 1
  have f0 := qr.frozen 0
  have f1 := qr.frozen 1
  have r0 := qr.cell 0
  have r1 := qr.cell 1
  have hres := Lib.hid ((qr.set 0 (.int .i64 (h + v / 33554432))).set 1 (.int .i64 (l + v % 33554432)))
  have HB := Lib.hid ((hb3.setCell (p := ⟨w.heap.size + 1, 0, none⟩) (by show w.heap.size ≤ w.heap.size + 1; omega) (.int .i64 (h + v / 33554432))).setCell (p := ⟨w.heap.size + 1, 1, none⟩) (by show w.heap.size ≤ w.heap.size + 1; omega) (.int .i64 (l + v % 33554432)))
  have HQ := Lib.hid hb
  clear q1 qr hb3 hb
  go_wp2_with fail
  rw [HQ.out]
  refine bodyPost_ret (v := .agg #[.int .i64 (h + v / 33554432), .int .i64 (l + v % 33554432)]) (results_c Tryz.results38 _ _ (w.heap.size + 1) 74 _ _ rfl hres.out Tryz.underlying74 rfl info_sumB) rfl ?_
  exact ⟨rfl, HB.out⟩
set_option maxHeartbeats 1000000 in
theorem ssmall_any (h l : Int) (w : World) (hh : -1000000000000000000 ≤ h ∧ h ≤ 1000000000000000000) (hl : 0 ≤ l ∧ l ≤ 1000000000000000000) :
    Calls Tryz.prog 62 #[.agg #[.int .i64 h, .int .i64 l]] w fun e w' => ∃ c, e = .returned (.tuple #[.int .i64 c, .bool (wiB (h * 33554432 + l) 1125899906842624)]) ∧ (wiB (h * 33554432 + l) 1125899906842624 = true → c = h * 33554432 + l) ∧ Below w.heap.size w w' := by
  have hb0 := and25 l
  obtain ⟨u, hu⟩ : ∃ u, u = l / 33554432 := ⟨_, rfl⟩
  obtain ⟨m, hm⟩ : ∃ m, m = l % 33554432 := ⟨_, rfl⟩
  have h1 : 0 ≤ u ∧ u ≤ 1000000000000000000 := by omega
  have h2 : 0 ≤ m ∧ m < 33554432 := by omega
  have h3 : h * 33554432 + l = (h + u) * 33554432 + m := by omega
  have hs : l / 33554432 = u := hu.symm
  rw [← hm] at hb0
  rw [h3]
  have hW : ∀ W, W = w.alloc (.cells #[.int .i64 h, .int .i64 l] 74) → Arr W w.heap.size 74 [.int .i64 h, .int .i64 l] ∧ Below w.heap.size w W := by
    intro W hW
    subst hW
    exact ⟨Arr.new _ _ [_, _], (Below.refl _ _).alloc (Nat.le_refl _) _⟩
  clear h3 hu hm
  obtain ⟨x, hx⟩ : ∃ x, x = h + u := ⟨_, rfl⟩
  rw [← hx]
  have hx2 : IntKind.i64.wrap (h + l / 33554432) = x := by rw [hs, ← hx]; exact IntWalk.i64_in _ (by omega)
  have hx3 : -3000000000000000000 ≤ x ∧ x ≤ 3000000000000000000 := by omega
  have HX := Lib.hid hx
  clear hs hx
  by_cases a : wiB x 67108864 = true
  · have b1 : -67108864 ≤ x ∧ x ≤ 67108864 := of_decide_eq_true a
    go_enter Tryz.func62, Tryz.ntmps62
    go_upto_region 1 with fail
    generalize w.alloc (.cells #[.int .i64 h, .int .i64 l] 74) = w1 at hW ⊢
    obtain ⟨q1, hb1⟩ := hW w1 rfl
    have y0 := q1.cell 0
    have y1 := q1.cell 1
    clear hW
    go_wp2_with fail
    go_quiet (fail)
    have hbd : Below w.heap.size w (w1.drewN nq) := bdrewN hb1 _
    generalize w1.drewN nq = w2 at hbd ⊢
    clear hb1 q1 y0 y1
    go_wp2_with ((with_reducible refine (bwithin_any _ _ _ (by decide) (by decide)).mono ?_); rintro e w' ⟨rfl, rfl⟩)
    go_ret2
    exact ⟨_, rfl, fun _ => rfl, hbd⟩
  · have b1 : ¬ (-67108864 ≤ x ∧ x ≤ 67108864) := fun h => a (decide_eq_true h)
    have a2 : wiB x 67108864 = false := decide_eq_false b1
    have a3 : wiB (x * 33554432 + m) 1125899906842624 = false := decide_eq_false (by omega)
    rw [a3]
    have B1 := Lib.hid b1
    clear a b1 a3
    go_enter Tryz.func62, Tryz.ntmps62
    go_upto_region 1 with fail
    generalize w.alloc (.cells #[.int .i64 h, .int .i64 l] 74) = w1 at hW ⊢
    obtain ⟨q1, hb1⟩ := hW w1 rfl
    have y0 := q1.cell 0
    have y1 := q1.cell 1
    clear hW
    go_wp2_with fail
    go_quiet (fail)
    have hbd : Below w.heap.size w (w1.drewN nq) := bdrewN hb1 _
    generalize w1.drewN nq = w2 at hbd ⊢
    clear hb1 q1 y0 y1
    go_wp2_with ((with_reducible refine (bwithin_any _ _ _ (by decide) (by decide)).mono ?_); rintro e w' ⟨rfl, rfl⟩)
    go_ret2
    exact ⟨_, rfl, fun h => Bool.noConfusion h, hbd⟩
end Go.Proofs.YtnmidhlghhephaaGreatDoor
