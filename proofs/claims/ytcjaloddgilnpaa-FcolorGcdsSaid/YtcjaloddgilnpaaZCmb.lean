/- intmatrix.eliminate's closure: a multiple of the pivot's row is taken from a row. -/
import Derived.Test.YtcjaloddgilnpaaZFdw
import Derived.Deep.RegionHeld3
import Derived.Deep.RegionWith
import Derived.Deep.DrawnRows
namespace Go.Proofs.Ytcjaloddgilnpaa
open Go.RowKit
set_option linter.unusedVariables false

/-- in the columns from k to x the multiple of q has been taken away -/
def cmb (m by_ k x : Nat) (q r : List Nat) : List Nat := (List.range r.length).map fun j => if k ≤ j ∧ j < x then (gn r j + (m - by_ * gn q j % m)) % m else gn r j
theorem cmb_length (m by_ k x : Nat) (q r : List Nat) : (cmb m by_ k x q r).length = r.length := by simp [cmb]
theorem gn_cmb {m by_ k x : Nat} {q r : List Nat} {j : Nat} (h : j < r.length) : gn (cmb m by_ k x q r) j = if k ≤ j ∧ j < x then (gn r j + (m - by_ * gn q j % m)) % m else gn r j := by
  unfold cmb; rw [gn_map_range, if_pos h]
theorem cmb_start (m by_ k : Nat) (q r : List Nat) : cmb m by_ k k q r = r := by
  apply gn_ext (cmb_length _ _ _ _ _ _)
  intro i hi
  rw [cmb_length] at hi
  rw [gn_cmb hi, if_neg (by omega)]
theorem cmb_step {m by_ k x : Nat} {q r : List Nat} (h1 : k ≤ x) (h2 : x < r.length) : (cmb m by_ k x q r).set x ((gn r x + (m - by_ * gn q x % m)) % m) = cmb m by_ k (x + 1) q r := by
  apply gn_ext (by simp [cmb_length])
  intro i hi
  have hi' : i < r.length := by simpa [cmb_length] using hi
  rw [gn_set _ _ _ _ (by rw [cmb_length]; exact h2), gn_cmb hi', gn_cmb hi']
  by_cases e : i = x
  · subst e; rw [if_pos rfl, if_pos (by omega)]
  · rw [if_neg e]
    by_cases c : k ≤ i ∧ i < x
    · rw [if_pos c, if_pos (by omega)]
    · rw [if_neg c, if_neg (by omega)]
theorem gn_cmb_at {m by_ k x : Nat} {q r : List Nat} (h : x < r.length) : gn (cmb m by_ k x q r) x = gn r x := by rw [gn_cmb h, if_neg (by omega)]

attribute [local go_sem ↓] Go.wp_at_zero Go.wp_at_succ
set_option maxHeartbeats 4000000 in
set_option maxRecDepth 100000 in
theorem combine_any (b c rk pv C : Nat) (r q : List Nat) (by_ k : Nat) (w : World) (hr : Arr w b 72 (uc r)) (hq : Arr w c 72 (uc q)) (hrk : Arr w rk 3 [.int .i64 (k : Int)]) (hpv : Arr w pv 82 [hd C c])
    (hbc : b ≠ c) (hb1 : b ≠ rk) (hb2 : b ≠ pv) (hrl : r.length = C) (hql : q.length = C) (hC : C ≤ 1000) (hk : k ≤ C) (hby : by_ < 2305843009213693951)
    (hrs : ∀ j, gn r j < 2305843009213693951) (hqs : ∀ j, gn q j < 2305843009213693951) :
    Calls Try.prog 85 #[.slice (some ⟨b, 0, none⟩) C C, .int .u64 (by_ : Nat), .pointer (some ⟨rk, 0, none⟩), .pointer (some ⟨pv, 0, none⟩)] w fun e w' => e = .returned (.tuple #[]) ∧ Arr w' b 72 (uc (cmb 2305843009213693951 by_ k C q r)) ∧ Onl b w w' := by
  have y0 := hrk.cell 0
  have y1 := hpv.cell 0
  have HRS := Lib.hid hrs
  have HQS := Lib.hid hqs
  have HRL := Lib.hid hrl
  have HQL := Lib.hid hql
  clear hrs hqs hrl hql
  go_enter Try.func85, Try.ntmps85
  go_wp2_with fail
  go_loopg [6] (C - k) (fun gk s6 wr => ∃ x : Nat, k ≤ x ∧ x ≤ C ∧ gk = C - x ∧ s6 = .int .i64 (x : Int) ∧ Arr wr b 72 (uc (cmb 2305843009213693951 by_ k x q r)) ∧ Onl b w wr)
  case atStart => exact ⟨k, Nat.le_refl _, hk, rfl, rfl, by rw [cmb_start]; exact hr, Onl.refl _ _⟩
  case round =>
    obtain ⟨x, hkx, hx, rfl, rfl, hb, ho⟩ := hrel
    by_cases hlt : x < C
    · have z1 : (x : Int) < (C : Int) := by omega
      have hxr : x < r.length := by rw [HRL.out]; exact hlt
      have zr := (hb.cell x).trans (uc_get (by rw [cmb_length]; exact hxr))
      rw [gn_cmb_at hxr] at zr
      have zf := hb.frozen x
      have zq := ((hq.onl ho hbc.symm).cell x).trans (uc_get (by rw [HQL.out]; exact hlt))
      have zk := (ho.cell (p := ⟨rk, 0, none⟩) hb1.symm).trans y0
      have zp : wr.cell? ⟨pv, 0, none⟩ = some (.slice (some ⟨c, 0, none⟩) C C) := (ho.cell (p := ⟨pv, 0, none⟩) hb2.symm).trans y1
      have h1 := HRS.out x
      have h2 := HQS.out x
      have HM := Lib.hid (fun W => mulP_any by_ (gn q x) W (by omega) (by omega))
      have hml : by_ * gn q x % 2305843009213693951 < 2305843009213693951 := Nat.mod_lt _ (by omega)
      have HS := Lib.hid (fun W => subP_any (gn r x) (by_ * gn q x % 2305843009213693951) W h1 hml)
      have HN := Lib.hid (fun (W : World) (hW : Onl b wr W) (ha : Arr W b 72 (uc (cmb 2305843009213693951 by_ k x q r))) => (show Arr (W.setCell ⟨b, x, none⟩ (.int .u64 (((gn r x + (2305843009213693951 - by_ * gn q x % 2305843009213693951)) % 2305843009213693951 : Nat) : Int))) b 72 (uc (cmb 2305843009213693951 by_ k (x + 1) q r)) ∧ Onl b w (W.setCell ⟨b, x, none⟩ (.int .u64 (((gn r x + (2305843009213693951 - by_ * gn q x % 2305843009213693951)) % 2305843009213693951 : Nat) : Int))) from by
        rw [← cmb_step hkx hxr, ← uc_set]
        exact ⟨ha.set x _, (ho.trans hW).setCell x _⟩))
      generalize by_ * gn q x % 2305843009213693951 = p at *
      generalize gn q x = vq at *
      generalize (gn r x + (2305843009213693951 - p)) % 2305843009213693951 = vn at *
      generalize gn r x = vr at *
      have HB := Lib.hid hb
      clear hb ho y0 y1
      go_upto_region 3 with fail
      go_region_with (first | (go_at_call 82; (with_reducible refine (HM.out _).mono ?_); rintro e w' ⟨n, rfl, rfl⟩) | (go_at_call 83; (with_reducible refine (HS.out _).mono ?_); rintro e w' ⟨rfl, rfl⟩))
      all_goals go_wp2_with fail
      all_goals
        go_roundg (C - (x + 1))
        case measure => omega
        case rel => exact ⟨x + 1, by omega, by omega, rfl, by go_num, HN.out _ ((Onl.refl _ _).drewN _) HB.out⟩
    · have z1 : ¬ ((x : Int) < (C : Int)) := by omega
      have hxn : x = C := by omega
      have HX := Lib.hid hxn
      clear hxn
      go_wp2_with fail
      go_end0
      exact ⟨rfl, by rw [← HX.out]; exact hb, ho⟩
end Go.Proofs.Ytcjaloddgilnpaa
