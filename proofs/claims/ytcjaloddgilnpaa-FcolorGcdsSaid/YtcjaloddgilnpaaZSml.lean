/- Small functions of intmatrix and fcolor: gcd, inverse, abs, columns. -/
import Derived.Test.YtcjaloddgilnpaaZMup
import Derived.Test.YtcjaloddgilnpaaZLis
import Derived.Test.YtcjaloddgilnpaaZPrm
namespace Go.Proofs.Ytcjaloddgilnpaa
open Go.RowKit
set_option linter.unusedVariables false

theorem rem_nat (a b : Nat) : (a : Int) % (b : Int) = ((a % b : Nat) : Int) := by simp
set_option maxHeartbeats 1000000 in
theorem gcdU_any (a b : Nat) (w : World) (ha : a < 18446744073709551616) (hb : b < 18446744073709551616) :
    Calls Try.prog 87 #[.int .u64 (a : Nat), .int .u64 (b : Nat)] w fun e w' => ∃ n, e = .returned (.int .u64 (Nat.gcd a b : Nat)) ∧ w' = w.drewN n := by
  obtain ⟨G, hG⟩ : ∃ g, g = Nat.gcd a b := ⟨_, rfl⟩
  rw [← hG]
  have HG := Lib.hid hG
  clear hG
  go_enter Try.func87, Try.ntmps87
  go_wp2_with fail
  go_loopg [0, 1] b (fun gk s0 s1 wr => ∃ x y n : Nat, gk = y ∧ s0 = .int .u64 (x : Int) ∧ s1 = .int .u64 (y : Int) ∧ x < 18446744073709551616 ∧ y < 18446744073709551616 ∧ Hid (G = Nat.gcd x y) ∧ wr = w.drewN n)
  case atStart => exact ⟨a, b, 0, rfl, rfl, rfl, ha, hb, HG, rfl⟩
  case round =>
    clear HG ha hb
    obtain ⟨x, y, n, rfl, rfl, rfl, hx, hy, HG, rfl⟩ := hrel
    obtain ⟨y, rfl⟩ : ∃ k, k = gk := ⟨_, rfl⟩
    rcases Nat.eq_zero_or_pos y with rfl | h0
    · go_wp2_with fail
      go_ret
      have := HG.out
      rw [Nat.gcd_zero_right] at this
      clear HG
      subst this
      exact ⟨n, rfl, rfl⟩
    · have z1 : ((y : Int) != 0) = true := by simp; omega
      have z2 : ((y : Int) == 0) = false := by simp; omega
      have e1 := rem_nat x y
      have HL := Lib.hid (Nat.mod_lt x h0)
      have HG2 := Lib.hid (show G = Nat.gcd y (x % y) by rw [HG.out, Nat.gcd_comm x y, Nat.gcd_rec y x, Nat.gcd_comm])
      obtain ⟨r, hr⟩ : ∃ r, r = x % y := ⟨_, rfl⟩
      rw [← hr] at e1 HL HG2
      have hl := HL.out
      clear hr HG HL
      generalize hWW : w.drewN n = W at *
      have HW := Lib.hid hWW
      clear hWW
      go_upto_region 2 with fail
      go_quiet (fail)
      have E1 := Lib.hid e1
      clear e1
      go_wp2_with fail
      go_roundg r
      case measure => omega
      case rel => exact ⟨y, r, _, rfl, rfl, by rw [← E1.out], hy, by omega, HG2, by rw [← HW.out]; exact drewN_add w n _⟩
set_option maxHeartbeats 1000000 in
theorem gcdI_any (a b : Nat) (w : World) (ha : a < 9223372036854775808) (hb : b < 9223372036854775808) :
    Calls Try.prog 39 #[.int .i64 (a : Nat), .int .i64 (b : Nat)] w fun e w' => ∃ n, e = .returned (.int .i64 (Nat.gcd a b : Nat)) ∧ w' = w.drewN n := by
  obtain ⟨G, hG⟩ : ∃ g, g = Nat.gcd a b := ⟨_, rfl⟩
  rw [← hG]
  have HG := Lib.hid hG
  clear hG
  go_enter Try.func39, Try.ntmps39
  go_wp2_with fail
  go_loopg [0, 1] b (fun gk s0 s1 wr => ∃ x y n : Nat, gk = y ∧ s0 = .int .i64 (x : Int) ∧ s1 = .int .i64 (y : Int) ∧ x < 9223372036854775808 ∧ y < 9223372036854775808 ∧ Hid (G = Nat.gcd x y) ∧ wr = w.drewN n)
  case atStart => exact ⟨a, b, 0, rfl, rfl, rfl, ha, hb, HG, rfl⟩
  case round =>
    clear HG ha hb
    obtain ⟨x, y, n, rfl, rfl, rfl, hx, hy, HG, rfl⟩ := hrel
    obtain ⟨y, rfl⟩ : ∃ k, k = gk := ⟨_, rfl⟩
    rcases Nat.eq_zero_or_pos y with rfl | h0
    · go_wp2_with fail
      go_ret
      have := HG.out
      rw [Nat.gcd_zero_right] at this
      clear HG
      subst this
      exact ⟨n, rfl, rfl⟩
    · have z1 : ((y : Int) != 0) = true := by simp; omega
      have z2 : ((y : Int) == 0) = false := by simp; omega
      have e1 := rem_nat x y
      have HL := Lib.hid (Nat.mod_lt x h0)
      have HG2 := Lib.hid (show G = Nat.gcd y (x % y) by rw [HG.out, Nat.gcd_comm x y, Nat.gcd_rec y x, Nat.gcd_comm])
      obtain ⟨r, hr⟩ : ∃ r, r = x % y := ⟨_, rfl⟩
      rw [← hr] at e1 HL HG2
      have hl := HL.out
      clear hr HG HL
      generalize hWW : w.drewN n = W at *
      have HW := Lib.hid hWW
      clear hWW
      go_upto_region 2 with fail
      go_quiet (fail)
      have E1 := Lib.hid e1
      clear e1
      go_wp2_with fail
      go_roundg r
      case measure => omega
      case rel => exact ⟨y, r, _, rfl, rfl, by rw [← E1.out], hy, by omega, HG2, by rw [← HW.out]; exact drewN_add w n _⟩
theorem abs_any (x : Int) (w : World) (h0 : -9223372036854775807 ≤ x) (h1 : x ≤ 9223372036854775807) :
    Calls Try.prog 69 #[.int .i64 x] w fun e w' => e = .returned (.int .u64 (x.natAbs : Nat)) ∧ w = w' := by
  obtain ⟨R, hR⟩ : ∃ k, k = x.natAbs := ⟨_, rfl⟩
  rw [← hR]
  by_cases h : x < 0
  · have e1 : (-x) = (R : Int) := by omega
    clear hR
    go_enter Try.func69, Try.ntmps69
    go_wp2_with fail
    go_ret
    exact ⟨rfl, rfl⟩
  · obtain ⟨y, rfl⟩ : ∃ y : Nat, x = (y : Int) := ⟨x.toNat, by omega⟩
    obtain rfl : R = y := by omega
    clear hR
    go_enter Try.func69, Try.ntmps69
    go_wp2_with fail
    go_ret
    exact ⟨rfl, rfl⟩
/-- the number of columns of a matrix -/
def cols (rows : List (List Int)) : Nat := (rows[0]?.getD []).length
theorem columns_any (v : Value) (rows : List (List Int)) (w : World) (h : Mat w v rows) (hl : rows.length ≤ 1000) (hr : ∀ r ∈ rows, r.length ≤ 1000) :
    Calls Try.prog 79 #[v] w fun e w' => e = .returned (.int .i64 (cols rows : Nat)) ∧ w = w' := by
  have h0 := h
  obtain ⟨A, c, rfl, hc, hx⟩ := h
  clear hx
  cases rows with
  | nil =>
    have e1 : cols [] = 0 := rfl
    rw [e1]
    clear e1 hr
    go_enter Try.func79, Try.ntmps79
    go_wp2_with fail
    go_ret
    exact ⟨rfl, rfl⟩
  | cons r rs =>
    obtain ⟨b, o, rfl, hb, u, hu, hI⟩ := h0.at_ (i := 0) (by simp)
    obtain ⟨A2, c2, rfl, hc2, hx2⟩ := hI
    have e1 : cols (r :: rs) = r.length := rfl
    have hrl := hr r (by simp)
    rw [e1]
    clear e1 hx2 h0 hr
    have hu' : w.cell? ⟨b, o, none⟩ = some (Value.slice A2 r.length c2) := hu
    have hl' : (rs.length : Int) + 1 ≤ 1000 := by simp at hl; omega
    have z1 : (((r :: rs).length : Int) == 0) = false := by simp; omega
    have z2 : (0 : Int) < ((r :: rs).length : Int) := by rw [List.length_cons]; omega
    generalize (r :: rs).length = N at *
    clear hu
    go_enter Try.func79, Try.ntmps79
    go_wp2_with fail
    go_ret
    exact ⟨rfl, rfl⟩
theorem p_cast : ((2305843009213693951 : Nat) : Int) = 2305843009213693951 := rfl
theorem mulP_any (a b : Nat) (w : World) (ha : a < 18446744073709551616) (hb : b < 18446744073709551616) :
    Calls Try.prog 82 #[.int .u64 (a : Nat), .int .u64 (b : Nat), .int .u64 2305843009213693951] w fun e w' => ∃ n, e = .returned (.int .u64 ((a * b % 2305843009213693951 : Nat) : Int)) ∧ w' = w.drewN n := by
  have h := mulMod_any a b 2305843009213693951 w ha hb (by omega) (by omega)
  rw [p_cast] at h
  exact h
theorem subP_any (a b : Nat) (w : World) (ha : a < 2305843009213693951) (hb : b < 2305843009213693951) :
    Calls Try.prog 83 #[.int .u64 (a : Nat), .int .u64 (b : Nat), .int .u64 2305843009213693951] w fun e w' => e = .returned (.int .u64 (((a + (2305843009213693951 - b)) % 2305843009213693951 : Nat) : Int)) ∧ w = w' := by
  have h := subMod_any a b 2305843009213693951 w ha hb (by omega)
  rw [p_cast] at h
  exact h
/-- the inverse modulo the prime -/
def invF (a : Nat) : Nat := pmod p61 a 61 (p61 - 2)
theorem invF_eq (a : Nat) : invF a = a ^ (p61 - 2) % p61 := pmod_eq p61 61 a (p61 - 2) (by decide)
theorem pow_split {r x e R : Nat} (h : r * x ^ e % p61 = R) : (if e % 2 = 1 then r * x % p61 else r) * (x * x % p61) ^ (e / 2) % p61 = R := by
  have h2 : (x * x % p61) ^ (e / 2) % p61 = x ^ (2 * (e / 2)) % p61 := by rw [← Nat.pow_mod, ← Nat.pow_two, ← Nat.pow_mul]
  rw [← h]
  split
  · rename_i h1
    have : e = 2 * (e / 2) + 1 := by omega
    rw [Nat.mul_mod, h2, Nat.mod_mod, ← Nat.mul_mod]
    conv => rhs; rw [this, Nat.pow_succ, Nat.mul_comm (x ^ _) x, ← Nat.mul_assoc]
  · have : e = 2 * (e / 2) := by omega
    rw [Nat.mul_mod, h2, ← Nat.mul_mod]
    conv => rhs; rw [this]
def PwR (r x e G : Nat) : Prop := r * x ^ e % p61 = G
theorem PwR.start (a E : Nat) (h : E = p61 - 2) : PwR 1 a E (invF a) := by unfold PwR; rw [invF_eq, h, Nat.one_mul]
set_option maxHeartbeats 1000000 in
theorem inverse_any (a : Nat) (w : World) (ha : a < 2305843009213693951) :
    Calls Try.prog 84 #[.int .u64 (a : Nat)] w fun e w' => ∃ n, e = .returned (.int .u64 (invF a : Nat)) ∧ w' = w.drewN n := by
  have HG := Lib.hid (PwR.start a 2305843009213693949 (by decide))
  generalize invF a = G at *
  go_enter Try.func84, Try.ntmps84
  go_wp2_with fail
  go_loopg [3, 4, 0] 2305843009213693949 (fun gk s3 s4 s0 wr => ∃ r e x n : Nat, gk = e ∧ s3 = .int .u64 (r : Int) ∧ s4 = .int .u64 (e : Int) ∧ s0 = .int .u64 (x : Int) ∧ r < 2305843009213693951 ∧ e < 2305843009213693951 ∧ x < 2305843009213693951 ∧ Hid (PwR r x e G) ∧ wr = w.drewN n)
  case atStart => exact ⟨1, 2305843009213693949, a, 0, rfl, rfl, rfl, rfl, by omega, by omega, ha, HG, rfl⟩
  case round =>
    clear HG ha
    obtain ⟨r, e, x, n, rfl, rfl, rfl, rfl, hr, he, hx, HG, rfl⟩ := hrel
    obtain ⟨e, rfl⟩ : ∃ k, k = gk := ⟨_, rfl⟩
    rcases Nat.eq_zero_or_pos e with rfl | h0
    · go_wp2_with fail
      go_ret
      have : r * x ^ 0 % p61 = G := HG.out
      rw [Nat.pow_zero, Nat.mul_one, Nat.mod_eq_of_lt (show r < p61 from hr)] at this
      clear HG
      subst this
      exact ⟨n, rfl, rfl⟩
    · have z0 : (0 : Int) < (e : Int) := by omega
      have e1 : bits BinOp.and IntKind.u64 (e : Int) 1 = ((e % 2 : Nat) : Int) := by
        have q := bits_and_u64_nat e 1 (by omega) (by omega)
        rw [Nat.and_one_is_mod] at q; exact q
      have e2 : (e : Int) / 2 = ((e / 2 : Nat) : Int) := by omega
      have HS := Lib.hid (pow_split HG.out)
      have HP := Lib.hid (fun W => mulP_any r x W (by omega) (by omega))
      have HX := Lib.hid (fun W => mulP_any x x W (by omega) (by omega))
      have hf : e / 2 < e := by omega
      obtain ⟨f, hfe⟩ : ∃ f, f = e / 2 := ⟨_, rfl⟩
      rw [← hfe] at e2 HS hf
      clear hfe HG
      have hq : r * x % 2305843009213693951 < 2305843009213693951 := Nat.mod_lt _ (by omega)
      have hy : x * x % 2305843009213693951 < 2305843009213693951 := Nat.mod_lt _ (by omega)
      have HS' := Lib.hid (show (if e % 2 = 1 then r * x % 2305843009213693951 else r) * (x * x % 2305843009213693951) ^ f % p61 = G from HS.out)
      clear HS
      generalize x * x % 2305843009213693951 = y at *
      generalize r * x % 2305843009213693951 = q at *
      by_cases h2 : e % 2 = 1
      · rw [if_pos h2] at HS'
        rw [h2] at e1
        clear h2
        go_wp2_with (first | (go_at_call 82; (with_reducible refine (HP.out _).mono ?_); rintro e w' ⟨m, rfl, rfl⟩) | (go_at_call 82; refine (HX.out _).mono ?_; rintro e w' ⟨m2, rfl, rfl⟩))
        go_roundg f
        case measure => omega
        case rel => exact ⟨q, f, y, _, rfl, rfl, by rw [← e2], rfl, hq, by omega, hy, Lib.hid HS'.out, rfl⟩
      · rw [if_neg h2] at HS'
        have h3 : e % 2 = 0 := by omega
        rw [h3] at e1
        clear h2 h3
        go_wp2_with (go_at_call 82; refine (HX.out _).mono ?_; rintro e w' ⟨m2, rfl, rfl⟩)
        go_roundg f
        case measure => omega
        case rel => exact ⟨r, f, y, _, rfl, rfl, by rw [← e2], rfl, hr, by omega, hy, Lib.hid HS'.out, rfl⟩
end Go.Proofs.Ytcjaloddgilnpaa
