/- intmatrix.isMatrix, isSmall, Smith: the walks, for small matrices. -/
/- intmatrix.Smith: the walk, for small matrices. -/
import Derived.Test.YtcjaloddgilnpaaZFaw
namespace Go.Proofs.Ytcjaloddgilnpaa
open Go.RowKit
set_option linter.unusedVariables false

set_option maxHeartbeats 1000000 in
theorem isMatrix_any (v : Value) (rows : List (List Int)) (C : Nat) (w : World) (h : Mat w v rows) (hn : rows.length ≤ 64) (hC : C ≤ 64) (hCc : C = cols rows) (hc : ∀ r ∈ rows, r.length = C) :
    Calls Try.prog 65 #[v] w fun e w' => e = .returned (.bool true) ∧ w = w' := by
  have HCO := Lib.hid (columns_any v rows w h (by omega) (fun r hr => by rw [hc r hr]; omega))
  rw [← hCc] at HCO
  have HM := Lib.hid h
  have HCL := Lib.hid hc
  obtain ⟨A0, c0, rfl⟩ := h.rowlen
  obtain ⟨n, hnn⟩ : ∃ n, n = rows.length := ⟨_, rfl⟩
  rw [← hnn] at hn HCO ⊢
  have HNN := Lib.hid hnn
  clear h hc hCc hnn
  go_enter Try.func65, Try.ntmps65
  go_wp2_with fail
  go_loopg [4, 7] n (fun gk s4 s7 wr => ∃ x : Nat, x ≤ n ∧ gk = n - x ∧ s7 = .int .i64 (x : Int) ∧ w = wr)
  case atStart => exact ⟨0, Nat.zero_le _, rfl, rfl, rfl⟩
  case round =>
    obtain ⟨x, hx, rfl, rfl, rfl⟩ := hrel
    by_cases hlt : x < n
    · have z1 : (x : Int) < (n : Int) := by omega
      have z0 : (0 : Int) < (n : Int) := by omega
      obtain ⟨b, o, hA, hb, u, hu, hI⟩ := HM.out.at_ (i := x) (by rw [← HNN.out]; exact hlt)
      obtain ⟨b', o', hA', hb', u', hu', hI'⟩ := HM.out.at_ (i := 0) (by rw [← HNN.out]; omega)
      subst hA
      injection hA' with hA'
      injection hA' with hA1 hA2
      subst hA1 hA2
      have l1 := HCL.out _ (List.getElem_mem (show x < rows.length by rw [← HNN.out]; exact hlt))
      have l2 := HCL.out _ (List.getElem_mem (show 0 < rows.length by rw [← HNN.out]; omega))
      obtain ⟨A2, c2, rfl, _⟩ := hI
      obtain ⟨A3, c3, rfl, _⟩ := hI'
      rw [l1] at hu
      rw [l2, Nat.add_zero] at hu'
      have z2 : ((C : Int) != (C : Int)) = false := by simp
      clear l1 l2
      go_wp2_with fail
      go_roundg (n - (x + 1))
      case measure => omega
      case rel => exact ⟨x + 1, by omega, rfl, by go_num, rfl⟩
    · have z1 : ¬ ((x : Int) < (n : Int)) := by omega
      have z2 : (n : Int) ≤ 64 := by omega
      have z3 : (C : Int) ≤ 64 := by omega
      go_wp2_with (go_at_call 79; refine HCO.out.mono ?_; rintro e w' ⟨rfl, rfl⟩)
      go_ret
      exact ⟨rfl, rfl⟩
/-- the sum of the absolute values -/
def asum (r : List Int) : Nat := (r.map Int.natAbs).sum
theorem asum_take_le (r : List Int) (y : Nat) : asum (r.take y) ≤ asum r := by
  conv => rhs; rw [← List.take_append_drop y r]
  unfold asum; rw [List.map_append, List.sum_append]; omega
theorem asum_succ {r : List Int} {y : Nat} (h : y < r.length) : asum (r.take (y + 1)) = asum (r.take y) + r[y].natAbs := by
  unfold asum; rw [List.take_succ_eq_append_getElem h, List.map_append, List.sum_append]; simp
theorem asum_mem {r : List Int} {x : Int} (h : x ∈ r) : x.natAbs ≤ asum r := by
  induction r with
  | nil => simp at h
  | cons a r ih =>
    unfold asum at ih ⊢
    simp only [List.map_cons, List.sum_cons]
    rcases List.mem_cons.1 h with e | e
    · rw [e]; omega
    · have := ih e; omega
theorem four_pow {b s x : Nat} (hb : b ≤ 4 ^ x) (hs : s ≤ 4) : b * s ≤ 4 ^ (x + 1) := by rw [Nat.pow_succ]; exact Nat.mul_le_mul hb hs
set_option maxHeartbeats 2000000 in
theorem isSmall_any (v : Value) (rows : List (List Int)) (w : World) (h : Mat w v rows) (hn : rows.length ≤ 24) (hl : ∀ r ∈ rows, r.length ≤ 1000) (hs : ∀ r ∈ rows, asum r ≤ 4) :
    Calls Try.prog 66 #[v] w fun e w' => e = .returned (.bool true) ∧ w = w' := by
  have HM := Lib.hid h
  have HS := Lib.hid hs
  have HLL := Lib.hid hl
  obtain ⟨A0, c0, rfl⟩ := h.rowlen
  obtain ⟨n, hnn⟩ : ∃ n, n = rows.length := ⟨_, rfl⟩
  rw [← hnn] at hn ⊢
  have HNN := Lib.hid hnn
  clear h hs hnn hl
  go_enter Try.func66, Try.ntmps66
  go_wp2_with fail
  go_loopg [3, 5, 6, 8, 11] n (fun gk s3 s5 s6 s8 s11 wr => ∃ x b : Nat, x ≤ n ∧ gk = n - x ∧ s11 = .int .i64 (x : Int) ∧ s3 = .int .u64 (b : Int) ∧ 1 ≤ b ∧ Hid (b ≤ 4 ^ x) ∧ w = wr)
  case atStart => exact ⟨0, 1, Nat.zero_le _, rfl, rfl, rfl, by omega, Lib.hid (by simp), rfl⟩
  case round =>
    obtain ⟨x, b, hx, rfl, rfl, rfl, hb1, HB, rfl⟩ := hrel
    by_cases hlt : x < n
    · have z1 : (x : Int) < (n : Int) := by omega
      obtain ⟨bb, o, hA, hb, u, hu, hI⟩ := HM.out.at_ (i := x) (by rw [← HNN.out]; exact hlt)
      subst hA
      have hsum := HS.out _ (List.getElem_mem (show x < rows.length by rw [← HNN.out]; exact hlt))
      have hrl := HLL.out _ (List.getElem_mem (show x < rows.length by rw [← HNN.out]; exact hlt))
      generalize rows[x] = row at *
      have HI := Lib.hid hI
      obtain ⟨A2, c2, rfl, _⟩ := hI
      go_wp2_with fail
      go_loopg [6, 8, 17] row.length (fun gk s6 s8 s17 wr => ∃ y s : Nat, y ≤ row.length ∧ gk = row.length - y ∧ s17 = .int .i64 (y : Int) ∧ s6 = .int .u64 (s : Int) ∧ s ≤ 4 ∧ Hid (s = asum (row.take y)) ∧ w = wr)
      case atStart => exact ⟨0, 0, Nat.zero_le _, rfl, rfl, rfl, by omega, Lib.hid (by simp [asum]), rfl⟩
      case round =>
        obtain ⟨y, s, hy, rfl, rfl, rfl, hs4, HSS, rfl⟩ := hrel
        by_cases hyt : y < row.length
        · have z2 : (y : Int) < (row.length : Int) := by omega
          obtain ⟨b2, o2, rfl, hbl, hcell⟩ := HI.out.at_ hyt
          have hab := Nat.le_trans (asum_mem (List.getElem_mem hyt)) hsum
          have hs5 : s + row[y].natAbs ≤ 4 := by rw [HSS.out, ← asum_succ hyt]; exact Nat.le_trans (asum_take_le _ _) hsum
          have HS2 := Lib.hid (show s + row[y].natAbs = asum (row.take (y + 1)) by rw [asum_succ hyt, HSS.out])
          have HAB := Lib.hid (fun W => abs_any row[y] W (by omega) (by omega))
          generalize row[y].natAbs = ab at *
          generalize row[y] = e at *
          have z3 : ¬ ((1125899906842624 : Int) < (ab : Int)) := by omega
          clear HSS
          go_wp2_with (go_at_call 69; (with_reducible refine (HAB.out _).mono ?_); rintro e w' ⟨rfl, rfl⟩)
          go_roundg (row.length - (y + 1))
          case measure => omega
          case rel => exact ⟨y + 1, s + ab, by omega, rfl, by go_num, by go_num, hs5, HS2, rfl⟩
        · have z2 : ¬ ((y : Int) < (row.length : Int)) := by omega
          obtain ⟨t, ht⟩ : ∃ t, t = max s 1 := ⟨_, rfl⟩
          have ht1 : 1 ≤ t := by omega
          have ht4 : t ≤ 4 := by omega
          have e1 : max (s : Int) 1 = (t : Int) := by omega
          have HBB := Lib.hid (four_pow HB.out ht4)
          have hb24 : b ≤ 4 ^ 23 := Nat.le_trans HB.out (Nat.pow_le_pow_right (by omega) (by omega))
          have hb46 : b ≤ 70368744177664 := hb24
          have hq : 4 ≤ 1125899906842624 / b := by rw [Nat.le_div_iff_mul_le (by omega)]; omega
          have e2 : (1125899906842624 : Int) / (b : Int) = ((1125899906842624 / b : Nat) : Int) := by simp
          have e3 : (b : Int) * (t : Int) = ((b * t : Nat) : Int) := by simp
          have hbt : b * t ≤ 281474976710656 := by
            have := Nat.mul_le_mul hb46 ht4; omega
          have hbt1 : 1 ≤ b * t := Nat.mul_pos (by omega) (by omega)
          generalize 1125899906842624 / b = q at *
          generalize hbtt : b * t = bt at *
          have HBT := Lib.hid hbtt
          have z3 : ¬ ((q : Int) < (t : Int)) := by omega
          have z4 : ((b : Int) == 0) = false := by simp; omega
          clear ht hb24 hbtt
          go_wp2_with fail
          go_roundg (n - (x + 1))
          case measure => omega
          case rel => exact ⟨x + 1, bt, by omega, rfl, by go_num, rfl, hbt1, HBB, rfl⟩
    · have z1 : ¬ ((x : Int) < (n : Int)) := by omega
      go_wp2_with fail
      go_ret
      exact ⟨rfl, rfl⟩
end Go.Proofs.Ytcjaloddgilnpaa

namespace Go.Proofs.Ytcjaloddgilnpaa
open Go.RowKit
set_option linter.unusedVariables false

theorem p61_def : p61 = 2305843009213693951 := rfl
theorem elM_ne {mi v e : Nat} (h1 : 0 < mi) (h2 : mi < 2305843009213693951) (h3 : v ≠ 0) (h4 : v < 2305843009213693951) : elM mi v e ≠ 0 := by
  have hq : mi * v % 2305843009213693951 ≠ 0 := by
    have := p61_mul (a := mi) (b := v) (by rw [p61_def, Nat.mod_eq_of_lt h2]; omega) (by rw [p61_def, Nat.mod_eq_of_lt h4]; exact h3)
    rwa [p61_def] at this
  have hl : mi * v % 2305843009213693951 < 2305843009213693951 := Nat.mod_lt _ (by omega)
  unfold elM
  generalize mi * v % 2305843009213693951 = q at *
  split
  · rw [Nat.zero_add, Nat.mod_eq_of_lt (by omega)]; omega
  · exact hq
theorem elF_ne {C : Nat} : ∀ (f : Nat) (A : List (List Nat)) (k mi : Nat), Ltm 2305843009213693951 A → Cl C A → 0 < mi → mi < 2305843009213693951 → 0 < (elF C f A k mi).2 ∧ (elF C f A k mi).2 < 2305843009213693951
  | 0, A, k, mi, _, _, h1, h2 => ⟨h1, h2⟩
  | f + 1, A, k, mi, hl, hc, h1, h2 => by
    cases h : findF A k C with
    | none => rw [elF_none h]; exact ⟨h1, h2⟩
    | some xy =>
      obtain ⟨x, y⟩ := xy
      rw [elF_some h]
      obtain ⟨q1, q2, q3, q4, _⟩ := findF_some h
      have hs := hl.elS hc (by omega) (show k < A.length by omega) (show k < C by omega) q2 q4
      have hcs := hc.elS (y := y) (show k < A.length by omega) q2
      exact elF_ne f _ _ _ (hs.elN hcs) hcs.elN (Nat.pos_of_ne_zero (elM_ne h1 h2 (elS_pos hc h) (hs k k))) (elM_lt _ _ _)
theorem resF_ltm {m : Nat} (hm : 0 < m) (rows : List (List Int)) : Ltm m (resF m rows) := by
  intro i j
  unfold ge gr resF
  rw [List.getElem?_map]
  cases hr : rows[i]? with
  | none => simpa [gn] using hm
  | some r =>
    simp only [Option.map_some, Option.getD_some]
    unfold gn resR
    rw [List.getElem?_map]
    cases hx : r[j]? with
    | none => simpa using hm
    | some x => simp only [Option.map_some, Option.getD_some]; exact rs_lt hm x
theorem resF_cl {m C : Nat} {rows : List (List Int)} (hc : ∀ r ∈ rows, r.length = C) : Cl C (resF m rows) := by
  intro i hi
  rw [resF_length] at hi
  unfold gr resF
  rw [List.getElem?_map, List.getElem?_eq_getElem hi]
  simp only [Option.map_some, Option.getD_some, resR, List.length_map]
  exact hc _ (List.getElem_mem hi)
/-- twice the minor -/
def smD (C : Nat) (rows : List (List Int)) : Nat := 2 * (minS (elF C (rows.length + 1) (resF 2305843009213693951 rows) 0 1).2).natAbs
theorem minS_bd {mi : Nat} (h1 : 0 < mi) (h2 : mi < 2305843009213693951) : 0 < (minS mi).natAbs ∧ (minS mi).natAbs ≤ 1152921504606846975 := by unfold minS; split <;> omega
theorem smD_bd {C : Nat} {rows : List (List Int)} (hc : ∀ r ∈ rows, r.length = C) : 0 < smD C rows ∧ smD C rows ≤ 2305843009213693950 := by
  obtain ⟨a, b⟩ := elF_ne (C := C) (rows.length + 1) (resF 2305843009213693951 rows) 0 1 (resF_ltm (by omega) rows) (resF_cl hc) (by omega) (by omega)
  obtain ⟨c, d⟩ := minS_bd a b
  unfold smD; omega
set_option maxHeartbeats 2000000 in
theorem Smith_any (v : Value) (rows : List (List Int)) (C : Nat) (w : World) (h : Mat w v rows) (hn : rows.length ≤ 24) (hC : C ≤ 64) (hCc : C = cols rows) (hc : ∀ r ∈ rows, r.length = C) (hs : ∀ r ∈ rows, asum r ≤ 4) :
    Calls Try.prog 42 #[v] w fun e w' => ∃ g, e = .returned (.tuple #[.slice (some ⟨g, 0, none⟩) (min rows.length C) (min rows.length C), .int .i64 0]) ∧ w.heap.size ≤ g ∧ Arr w' g 3 (nc (facO (smD C rows) C rows (min rows.length C))) ∧ Below w.heap.size w w' := by
  have hbd : ∀ r ∈ rows, ∀ x ∈ r, -9223372036854775807 ≤ x ∧ x ≤ 9223372036854775807 := fun r hr x hx => by
    have := asum_mem hx; have := hs r hr; omega
  have H1 := Lib.hid (isMatrix_any v rows C w h (by omega) hC hCc hc)
  have H2 := Lib.hid (isSmall_any v rows w h hn (fun r hr => by rw [hc r hr]; omega) hs)
  have H3 := Lib.hid (eliminate_any v rows C w h (by omega) (by omega) hc hbd)
  obtain ⟨d1, d2⟩ := smD_bd hc
  have H4 := Lib.hid (fun W (hb : Below w.heap.size w W) => factors_any v rows C (smD C rows) W (h.below hb) (by omega) (by omega) hCc hc hbd d1 (by omega))
  have hS : smD C rows = 2 * (minS (elF C (rows.length + 1) (resF 2305843009213693951 rows) 0 1).2).natAbs := rfl
  obtain ⟨A0, c0, rfl⟩ := h.rowlen
  generalize (elF C (rows.length + 1) (resF 2305843009213693951 rows) 0 1).1 = rk at *
  generalize minS (elF C (rows.length + 1) (resF 2305843009213693951 rows) 0 1).2 = mi at *
  generalize smD C rows = D at *
  have H5 := Lib.hid (fun W => abs_any mi W (by omega) (by omega))
  have e1 : 2 * ((mi.natAbs : Nat) : Int) = (D : Int) := by omega
  generalize mi.natAbs = am at *
  clear h hc hs hbd hCc hS
  go_enter Try.func42, Try.ntmps42
  go_upto_region 6 with (first | (go_at_call 65; refine H1.out.mono ?_; rintro e w' ⟨rfl, rfl⟩) | (go_at_call 66; refine H2.out.mono ?_; rintro e w' ⟨rfl, rfl⟩) | (go_at_call 67; refine H3.out.mono ?_; rintro e w' ⟨rfl, hb⟩))
  have H6 := Lib.hid (H4.out w' hb)
  go_wp2_with (first | (go_at_call 69; (with_reducible refine (H5.out _).mono ?_); rintro e w' ⟨rfl, rfl⟩) | (go_at_call 68; refine H6.out.mono ?_; rintro e w' ⟨g, rfl, hg, ha, hb2⟩))
  go_ret2
  exact ⟨g, rfl, Nat.le_trans hb.size hg, ha, hb.trans (hb2.mono hb.size)⟩
end Go.Proofs.Ytcjaloddgilnpaa
