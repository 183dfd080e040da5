/- slices.Backward at words; word.Inverse. -/
import Derived.Test.YtlbihllmpbhhcaaDoorRdc
import Derived.RangeFuncNested
import Derived.RangeFuncBound
import Derived.RangeFuncCalls
import Derived.RangeFuncLeaves
import Derived.RangeFuncBox
import Derived.Shelf.Abstract
import Derived.Shelf.RegionOpen
import Derived.OwnWalkIn
import Derived.TacticsInMore
import Derived.LoopNIn
import Derived.LoopIn
namespace Go.Proofs.YtlbihllmpbhhcaaDoor
open Go.RowKit Go.Shelf
set_option linter.unusedVariables false
attribute [local go_sem] Oper.semAt_some

/-- a letter within bounds -/
abbrev Bd := { z : Int // -1000000000 ≤ z ∧ z ≤ 1000000000 }
/-- what a round keeps: what lies below n₀, and one block beyond -/
def KB (n₀ B : Nat) (W W' : World) : Prop := Below n₀ W W' ∧ W'.heap[B]? = W.heap[B]?
theorem KB.refl (n₀ B : Nat) (W : World) : KB n₀ B W W := ⟨Below.refl _ _, rfl⟩
theorem KB.trans {n₀ B : Nat} {X Y Z : World} (h : KB n₀ B X Y) (k : KB n₀ B Y Z) : KB n₀ B X Z := ⟨h.1.trans k.1, k.2.trans h.2⟩
theorem KB.cellB {n₀ B i : Nat} {W W' : World} (h : KB n₀ B W W') : W'.cell? ⟨B, i, none⟩ = W.cell? ⟨B, i, none⟩ := by unfold World.cell?; rw [h.2]
set_option maxRecDepth 100000 in
set_option maxHeartbeats 2000000 in
theorem bwd1_in (F : Fence) (n : Nat) (h7 : F.fn 69) (hro : F.round = none) (hn : 1 ≤ n) (l Bs n₀ b off len cap : Nat) (zs : List Int) (hzb : ∀ x ∈ zs, -1000000000 ≤ x ∧ x ≤ 1000000000) (hz : zs.length = len) (hreach : len ≤ 1000000) (hb : b < n₀) (J Jx : List (Int × Bd) → World → Prop)
    (hY : ∀ pre x W, J pre W → pre.length < len → YieldAt F (n - 1) Tryd.prog l #[.int .i64 x.1, .int .i64 x.2.1] W fun e W' =>
      (e = .returned (.bool true) ∧ J (pre ++ [x]) W' ∧ KB n₀ Bs W W') ∨ (e = .returned (.bool false) ∧ Jx (pre ++ [x]) W'))
    (W : World) (hBs : W.cell? ⟨Bs, 0, none⟩ = some (.slice (some ⟨b, off, none⟩) len cap)) (hc : ∀ j (h : j < zs.length), W.cell? ⟨b, off + j, none⟩ = some (.int .i64 zs[j])) (h0 : J [] W) :
    CallsIn F n Tryd.prog 69 #[.func (.yield l) #[] #[], .pointer (some ⟨Bs, 0, none⟩)] W fun e W' => (∃ v, e = .returned v) ∧
      ((∃ ys, ys.map (·.2.1) = zs.reverse ∧ J ys W') ∨ (∃ pre, True ∧ Jx pre W')) := by
  refine callsIn_of_wp Tryd.func69 rfl h7 ?_ hro
  simp only [Tryd.ntmps69, List.size_toArray, List.length_cons, List.length_nil, Nat.reduceAdd, Nat.reduceSub, Array.replicate_succ, Array.replicate_zero, List.push_toArray, List.append_toArray, List.nil_append, List.cons_append]
  have HC := Lib.hid hc
  have HZ := Lib.hid hz
  have HZB := Lib.hid hzb
  clear hzb
  have hlz : len ≤ 9223372036854775807 := by omega
  clear hc hz
  gi_wp2
  gi_loopw [3] (fun i wr => ∃ m : Nat, ∃ pre : List (Int × Bd), m ≤ len ∧ i = .int .i64 ((m : Int) - 1) ∧ pre.length = len - m ∧ Hid (pre.map (·.2.1) = (zs.drop m).reverse) ∧ J pre wr ∧ KB n₀ Bs W wr)
    (fun i _ => (intOf i + 1).toNat)
  case atStart => exact ⟨len, [], Nat.le_refl _, rfl, by simp, Lib.hid (by rw [List.drop_of_length_le (by rw [HZ.out]; omega)]; rfl), h0, KB.refl _ _ _⟩
  case round =>
    obtain ⟨m, pre, hm, rfl, hpl, HP, hJs, hnx⟩ := hrel
    have hBs' : wr.cell? ⟨Bs, 0, none⟩ = some (.slice (some ⟨b, off, none⟩) len cap) := hnx.cellB.trans hBs
    clear hBs
    cases m with
    | zero =>
      gi_wp2
      go_end0
      exact ⟨⟨_, rfl⟩, .inl ⟨pre, HP.out, hJs⟩⟩
    | succ m =>
      have e1 : ((m + 1 : Nat) : Int) - 1 = (m : Int) := by omega
      rw [e1]
      have hmz : m < zs.length := by have := HZ.out; omega
      have z1 : (m : Int) < (len : Int) := by omega
      have hcx := (hnx.1.cell (p := ⟨b, off + m, none⟩) hb).trans (HC.out m hmz)
      have HP2 := Lib.hid (show (pre ++ [((m : Int), (⟨zs[m], HZB.out _ (List.getElem_mem hmz)⟩ : Bd))]).map (·.2.1) = (zs.drop m).reverse from by
        rw [List.map_append, HP.out, List.drop_eq_getElem_cons hmz, List.reverse_cons]; rfl)
      clear HP
      obtain ⟨x, hx⟩ : ∃ x : Bd, x = ⟨zs[m], HZB.out _ (List.getElem_mem hmz)⟩ := ⟨_, rfl⟩
      rw [← hx] at HP2
      have hx1 : zs[m] = x.1 := by rw [hx]
      rw [hx1] at hcx
      clear hx hx1
      obtain ⟨fn, tmps, assign, body, hy, hR⟩ := hY pre ((m : Int), x) wr hJs (by omega)
      dsimp only at hy
      clear e1
      gi_wp2
      refine hR.mono ?_
      rintro e W3 (⟨rfl, hJ3, hk3⟩ | ⟨rfl, hJx3⟩)
      · gi_wp2
        go_roundw
        case rel => exact ⟨m, _, by omega, rfl, by rw [List.length_append, hpl]; simp; omega, HP2, hJ3, hnx.trans hk3⟩
        case measure => simp [intOf]
      · gi_wp2
        refine bodyPost_ret (results_none rfl _ _ _) rfl ?_
        exact ⟨⟨_, rfl⟩, .inr ⟨_, trivial, hJx3⟩⟩
set_option maxRecDepth 100000 in
set_option maxHeartbeats 1000000 in
theorem bwd1_nil_in (F : Fence) (n : Nat) (h7 : F.fn 69) (hro : F.round = none) (l Bs : Nat) (A : Option Addr) (cap : Nat) (J : List (Int × Bd) → World → Prop) (W : World) (hBs : W.cell? ⟨Bs, 0, none⟩ = some (.slice A 0 cap)) (h0 : J [] W) :
    CallsIn F n Tryd.prog 69 #[.func (.yield l) #[] #[], .pointer (some ⟨Bs, 0, none⟩)] W fun e W' => (∃ v, e = .returned v) ∧ J [] W' := by
  refine callsIn_of_wp Tryd.func69 rfl h7 ?_ hro
  simp only [Tryd.ntmps69, List.size_toArray, List.length_cons, List.length_nil, Nat.reduceAdd, Nat.reduceSub, Array.replicate_succ, Array.replicate_zero, List.push_toArray, List.append_toArray, List.nil_append, List.cons_append]
  gi_wp2
  gi_loopw [3] (fun i wr => i = .int .i64 (-1) ∧ J [] wr) (fun _ _ => 0)
  case atStart => exact ⟨rfl, h0⟩
  case round =>
    obtain ⟨rfl, hJs⟩ := hrel
    gi_wp2
    go_end0
    exact ⟨⟨_, rfl⟩, hJs⟩
set_option maxHeartbeats 1000000 in
theorem bwd_in (F : Fence) (n : Nat) (h5 : F.fn 43) (hro : F.round = none) (a : Option Addr) (len cap : Nat) (w : World) :
    CallsIn F n Tryd.prog 43 #[.slice a len cap] w fun e w' => e = .returned (.func (.func 69) #[] #[.pointer (some ⟨w.heap.size, 0, none⟩)]) ∧ w' = w.alloc (.cells #[.slice a len cap] 42) := by
  refine callsIn_of_wp Tryd.func43 rfl h5 ?_ hro
  simp only [Tryd.ntmps43, List.size_toArray, List.length_cons, List.length_nil, Nat.reduceAdd, Nat.reduceSub, Array.replicate_succ, Array.replicate_zero, List.push_toArray, List.append_toArray, List.nil_append, List.cons_append]
  gi_wp2
  go_ret
  exact ⟨rfl, rfl⟩
theorem bwd_stops (F : Fence) (n : Nat) (h8 : F.fn 69) (hro : F.round = none) (hn : 1 ≤ n) (Bs n₀ : Nat) (sv : Value) (zs : List Int) (hzb : ∀ x ∈ zs, -1000000000 ≤ x ∧ x ≤ 1000000000) (hreach : zs.length ≤ 1000000) (w : World) (hBs : Bs < w.heap.size) (hn₀ : n₀ ≤ w.heap.size)
    (hc : w.cell? ⟨Bs, 0, none⟩ = some sv) (hI : Ints w sv zs) (hIb : ∀ W, Below n₀ w W → Ints W sv zs) (hIl : ∀ b o n c, sv = .slice (some ⟨b, o, none⟩) n c → 0 < zs.length → b < n₀) :
    SeqStopsK F n Tryd.prog 69 #[.pointer (some ⟨Bs, 0, none⟩)] (fun x : Int × Bd => #[Value.int .i64 x.1, Value.int .i64 x.2.1]) (KB n₀ Bs) (fun ys => ys.map (·.2.1) = zs.reverse) (fun _ => True) zs.length w := fun l J Jx W hW _ _ hY h0 => by
  have hW' := hW.mono hn₀
  have hc' := (hW.cell (p := ⟨Bs, 0, none⟩) hBs).trans hc
  have hI' := hIb W hW'
  rcases Nat.eq_zero_or_pos zs.length with hz | hz
  · obtain rfl : zs = [] := List.eq_nil_of_length_eq_zero hz
    obtain ⟨A, c, rfl, _⟩ := hI'
    exact (bwd1_nil_in F n h8 hro l Bs A c J W hc' h0).mono fun e W' ⟨he, hj⟩ => ⟨he, .inl ⟨_, rfl, hj⟩⟩
  · obtain ⟨b, o, ⟨c, rfl⟩, _, _⟩ := ints_atZ hI' hz
    refine bwd1_in F n h8 hro hn l Bs n₀ b o zs.length c zs hzb rfl hreach (hIl _ _ _ _ rfl hz) J Jx hY W hc' (fun j h => ?_) h0
    obtain ⟨b', o', ⟨c', e⟩, _, hcell⟩ := ints_atZ hI' h
    injection e with e1 e2 e3
    injection e1 with e1
    injection e1 with e1 e4
    subst e1 e4
    exact hcell
end Go.Proofs.YtlbihllmpbhhcaaDoor
