/- word.Inverse. -/
import Derived.Test.YtlbihllmpbhhcaaGreatDoorRdc
import Derived.RangeFuncNested
import Derived.RangeFuncBound
import Derived.RangeFuncCalls
import Derived.RangeFuncLeaves
import Derived.RangeFuncBox
import Derived.Shelf.Abstract
import Derived.Shelf.RegionOpen
import Derived.OwnWalkIn
import Derived.TacticsInMore
import Derived.LoopNIn
import Derived.LoopIn
namespace Go.Proofs.YtlbihllmpbhhcaaGreatDoor
open Go.RowKit Go.Shelf
set_option linter.unusedVariables false
attribute [local go_sem] Oper.semAt_some

/-- a letter within bounds -/
abbrev Bd := { z : Int // -1000000000 ≤ z ∧ z ≤ 1000000000 }
/-- what a round keeps: what lies below n₀, and one block beyond -/
def KB (n₀ B : Nat) (W W' : World) : Prop := Below n₀ W W' ∧ W'.heap[B]? = W.heap[B]?
theorem KB.refl (n₀ B : Nat) (W : World) : KB n₀ B W W := ⟨Below.refl _ _, rfl⟩
theorem KB.trans {n₀ B : Nat} {X Y Z : World} (h : KB n₀ B X Y) (k : KB n₀ B Y Z) : KB n₀ B X Z := ⟨h.1.trans k.1, k.2.trans h.2⟩
theorem KB.cellB {n₀ B i : Nat} {W W' : World} (h : KB n₀ B W W') : W'.cell? ⟨B, i, none⟩ = W.cell? ⟨B, i, none⟩ := by unfold World.cell?; rw [h.2]
set_option maxRecDepth 100000 in
set_option maxHeartbeats 2000000 in
theorem bwd1_in (F : Fence) (n : Nat) (h7 : F.fn 51) (hro : F.round = none) (hn : 1 ≤ n) (l Bs n₀ b off len cap : Nat) (zs : List Int) (hzb : ∀ x ∈ zs, -1000000000 ≤ x ∧ x ≤ 1000000000) (hz : zs.length = len) (hreach : len ≤ 1000000) (hb : b < n₀) (J Jx : List (Int × Bd) → World → Prop)
    (hY : ∀ pre x W, J pre W → pre.length < len → YieldAt F (n - 1) Tryz.prog l #[.int .i64 x.1, .int .i64 x.2.1] W fun e W' =>
      (e = .returned (.bool true) ∧ J (pre ++ [x]) W' ∧ KB n₀ Bs W W') ∨ (e = .returned (.bool false) ∧ Jx (pre ++ [x]) W'))
    (W : World) (hBs : W.cell? ⟨Bs, 0, none⟩ = some (.slice (some ⟨b, off, none⟩) len cap)) (hc : ∀ j (h : j < zs.length), W.cell? ⟨b, off + j, none⟩ = some (.int .i64 zs[j])) (h0 : J [] W) :
    CallsIn F n Tryz.prog 51 #[.func (.yield l) #[] #[], .pointer (some ⟨Bs, 0, none⟩)] W fun e W' => (∃ v, e = .returned v) ∧
      ((∃ ys, ys.map (·.2.1) = zs.reverse ∧ J ys W') ∨ (∃ pre, True ∧ Jx pre W')) := by
  refine callsIn_of_wp Tryz.func51 rfl h7 ?_ hro
  simp only [Tryz.ntmps51, List.size_toArray, List.length_cons, List.length_nil, Nat.reduceAdd, Nat.reduceSub, Array.replicate_succ, Array.replicate_zero, List.push_toArray, List.append_toArray, List.nil_append, List.cons_append]
  have HC := Lib.hid hc
  have HZ := Lib.hid hz
  have HZB := Lib.hid hzb
  clear hzb
  have hlz : len ≤ 9223372036854775807 := by omega
  clear hc hz
  gi_wp2
  gi_loopw [3] (fun i wr => ∃ m : Nat, ∃ pre : List (Int × Bd), m ≤ len ∧ i = .int .i64 ((m : Int) - 1) ∧ pre.length = len - m ∧ Hid (pre.map (·.2.1) = (zs.drop m).reverse) ∧ J pre wr ∧ KB n₀ Bs W wr)
    (fun i _ => (intOf i + 1).toNat)
  case atStart => exact ⟨len, [], Nat.le_refl _, rfl, by simp, Lib.hid (by rw [List.drop_of_length_le (by rw [HZ.out]; omega)]; rfl), h0, KB.refl _ _ _⟩
  case round =>
    obtain ⟨m, pre, hm, rfl, hpl, HP, hJs, hnx⟩ := hrel
    have hBs' : wr.cell? ⟨Bs, 0, none⟩ = some (.slice (some ⟨b, off, none⟩) len cap) := hnx.cellB.trans hBs
    clear hBs
    cases m with
    | zero =>
      gi_wp2
      go_end0
      exact ⟨⟨_, rfl⟩, .inl ⟨pre, HP.out, hJs⟩⟩
    | succ m =>
      have e1 : ((m + 1 : Nat) : Int) - 1 = (m : Int) := by omega
      rw [e1]
      have hmz : m < zs.length := by have := HZ.out; omega
      have z1 : (m : Int) < (len : Int) := by omega
      have hcx := (hnx.1.cell (p := ⟨b, off + m, none⟩) hb).trans (HC.out m hmz)
      have HP2 := Lib.hid (show (pre ++ [((m : Int), (⟨zs[m], HZB.out _ (List.getElem_mem hmz)⟩ : Bd))]).map (·.2.1) = (zs.drop m).reverse from by
        rw [List.map_append, HP.out, List.drop_eq_getElem_cons hmz, List.reverse_cons]; rfl)
      clear HP
      obtain ⟨x, hx⟩ : ∃ x : Bd, x = ⟨zs[m], HZB.out _ (List.getElem_mem hmz)⟩ := ⟨_, rfl⟩
      rw [← hx] at HP2
      have hx1 : zs[m] = x.1 := by rw [hx]
      rw [hx1] at hcx
      clear hx hx1
      obtain ⟨fn, tmps, assign, body, hy, hR⟩ := hY pre ((m : Int), x) wr hJs (by omega)
      dsimp only at hy
      clear e1
      gi_wp2
      refine hR.mono ?_
      rintro e W3 (⟨rfl, hJ3, hk3⟩ | ⟨rfl, hJx3⟩)
      · gi_wp2
        go_roundw
        case rel => exact ⟨m, _, by omega, rfl, by rw [List.length_append, hpl]; simp; omega, HP2, hJ3, hnx.trans hk3⟩
        case measure => simp [intOf]
      · gi_wp2
        refine bodyPost_ret (results_none rfl _ _ _) rfl ?_
        exact ⟨⟨_, rfl⟩, .inr ⟨_, trivial, hJx3⟩⟩
set_option maxRecDepth 100000 in
set_option maxHeartbeats 1000000 in
theorem bwd1_nil_in (F : Fence) (n : Nat) (h7 : F.fn 51) (hro : F.round = none) (l Bs : Nat) (A : Option Addr) (cap : Nat) (J : List (Int × Bd) → World → Prop) (W : World) (hBs : W.cell? ⟨Bs, 0, none⟩ = some (.slice A 0 cap)) (h0 : J [] W) :
    CallsIn F n Tryz.prog 51 #[.func (.yield l) #[] #[], .pointer (some ⟨Bs, 0, none⟩)] W fun e W' => (∃ v, e = .returned v) ∧ J [] W' := by
  refine callsIn_of_wp Tryz.func51 rfl h7 ?_ hro
  simp only [Tryz.ntmps51, List.size_toArray, List.length_cons, List.length_nil, Nat.reduceAdd, Nat.reduceSub, Array.replicate_succ, Array.replicate_zero, List.push_toArray, List.append_toArray, List.nil_append, List.cons_append]
  gi_wp2
  gi_loopw [3] (fun i wr => i = .int .i64 (-1) ∧ J [] wr) (fun _ _ => 0)
  case atStart => exact ⟨rfl, h0⟩
  case round =>
    obtain ⟨rfl, hJs⟩ := hrel
    gi_wp2
    go_end0
    exact ⟨⟨_, rfl⟩, hJs⟩
set_option maxHeartbeats 1000000 in
theorem bwd_in (F : Fence) (n : Nat) (h5 : F.fn 34) (hro : F.round = none) (a : Option Addr) (len cap : Nat) (w : World) :
    CallsIn F n Tryz.prog 34 #[.slice a len cap] w fun e w' => e = .returned (.func (.func 51) #[] #[.pointer (some ⟨w.heap.size, 0, none⟩)]) ∧ w' = w.alloc (.cells #[.slice a len cap] 38) := by
  refine callsIn_of_wp Tryz.func34 rfl h5 ?_ hro
  simp only [Tryz.ntmps34, List.size_toArray, List.length_cons, List.length_nil, Nat.reduceAdd, Nat.reduceSub, Array.replicate_succ, Array.replicate_zero, List.push_toArray, List.append_toArray, List.nil_append, List.cons_append]
  gi_wp2
  go_ret
  exact ⟨rfl, rfl⟩
theorem bwd_stops (F : Fence) (n : Nat) (h8 : F.fn 51) (hro : F.round = none) (hn : 1 ≤ n) (Bs n₀ : Nat) (sv : Value) (zs : List Int) (hzb : ∀ x ∈ zs, -1000000000 ≤ x ∧ x ≤ 1000000000) (hreach : zs.length ≤ 1000000) (w : World) (hBs : Bs < w.heap.size) (hn₀ : n₀ ≤ w.heap.size)
    (hc : w.cell? ⟨Bs, 0, none⟩ = some sv) (hI : Ints w sv zs) (hIb : ∀ W, Below n₀ w W → Ints W sv zs) (hIl : ∀ b o n c, sv = .slice (some ⟨b, o, none⟩) n c → 0 < zs.length → b < n₀) :
    SeqStopsK F n Tryz.prog 51 #[.pointer (some ⟨Bs, 0, none⟩)] (fun x : Int × Bd => #[Value.int .i64 x.1, Value.int .i64 x.2.1]) (KB n₀ Bs) (fun ys => ys.map (·.2.1) = zs.reverse) (fun _ => True) zs.length w := fun l J Jx W hW _ _ hY h0 => by
  have hW' := hW.mono hn₀
  have hc' := (hW.cell (p := ⟨Bs, 0, none⟩) hBs).trans hc
  have hI' := hIb W hW'
  rcases Nat.eq_zero_or_pos zs.length with hz | hz
  · obtain rfl : zs = [] := List.eq_nil_of_length_eq_zero hz
    obtain ⟨A, c, rfl, _⟩ := hI'
    exact (bwd1_nil_in F n h8 hro l Bs A c J W hc' h0).mono fun e W' ⟨he, hj⟩ => ⟨he, .inl ⟨_, rfl, hj⟩⟩
  · obtain ⟨b, o, ⟨c, rfl⟩, _, _⟩ := ints_atZ hI' hz
    refine bwd1_in F n h8 hro hn l Bs n₀ b o zs.length c zs hzb rfl hreach (hIl _ _ _ _ rfl hz) J Jx hY W hc' (fun j h => ?_) h0
    obtain ⟨b', o', ⟨c', e⟩, _, hcell⟩ := ints_atZ hI' h
    injection e with e1 e2 e3
    injection e1 with e1
    injection e1 with e1 e4
    subst e1 e4
    exact hcell

attribute [local go_sem] Oper.semAt_some

theorem invW_eq (ws : List Int) : invW ws = ws.reverse.map fun x => -x := by unfold invW; rw [List.map_reverse]
def negS (pre : List (Int × Bd)) : List Int := pre.map fun x => -x.2.1
theorem negS_all {ys : List (Int × Bd)} {zs : List Int} (h : ys.map (·.2.1) = zs.reverse) : negS ys = invW zs := by
  rw [invW_eq, ← h]; unfold negS; simp
theorem negS_snoc (pre : List (Int × Bd)) (x : Int × Bd) : negS (pre ++ [x]) = negS pre ++ [-x.2.1] := by unfold negS; simp
def Ibox (n₀ B : Nat) (R : List Int) (W : World) : Prop := ∃ v, Boxed W B 38 v ∧ W.ownsRow n₀ 3 1 v R.length (R.map (Value.int .i64)) ∧ True
theorem KB.step {n₀ Bs M : Nat} {w0 W W' : World} {row : Option Nat} (h : KB n₀ Bs w0 W) (hg : W.grownBy W' row) (hr : ∀ r, row = some r → M ≤ r) (hn : n₀ ≤ w0.heap.size) (hM : n₀ ≤ M) (hB : Bs < M) (hBw : Bs < w0.heap.size) : KB n₀ Bs w0 W' :=
  ⟨h.1.grown hg (Nat.le_trans hn h.1.size) (fun k e => Nat.le_trans hM (hr k e)), (hg.block Bs (Nat.lt_of_lt_of_le hBw h.1.size) (fun e => by have := hr Bs e.symm; omega)).trans h.2⟩
theorem Ibox.from (n₀ B Bs M : Nat) (w0 : World) (R : List (Int × Bd) → List Int) (hM : n₀ ≤ M) (hn : n₀ ≤ w0.heap.size) (hB : Bs < M) (hBw : Bs < w0.heap.size) : OwnFrom M (fun pre W => Ibox n₀ B (R pre) W ∧ KB n₀ Bs w0 W) :=
  OwnFrom.and (Own.from (holdsRow_own n₀ B 38 3 1 (fun pre => (R pre).length) (fun pre => (R pre).map (Value.int .i64)) (fun _ _ => True)) M)
    (fun s W W' row hs hg hr => KB.step hs hg (fun r e => (hr r e).1) hn hM hB hBw)
/-- blocks that are no integers of the slice's own -/
theorem PSt.keepO {base : Nat} {v v' : Value} {w W : World} {s s' : List Int} (h : PSt base v w v' s' W) (ho : OwnI 3 base w v s) {g : Nat} {o : Obj} (hg : w.heap[g]? = some o) (hne : ∀ cur, o ≠ .cells cur 3 (0, 0)) : W.heap[g]? = some o := by
  have hlt : g < w.heap.size := (Array.getElem?_eq_some_iff.1 hg).1
  rw [h.kx g hlt fun e => ?_]
  · exact hg
  · rcases ho.2 with ⟨rfl, _⟩ | ⟨k, cap, cur, rfl, _, hh, _⟩
    · simp [Value.ownBlock] at e
    · simp [Value.ownBlock] at e
      subst e
      rw [hg] at hh
      injection hh with hh
      exact hne _ hh
theorem Boxed.neInt {t : TypeId} (ht : t ≠ 3) (v : Value) (cur : Array Value) : Obj.cells #[v] t (0, 0) ≠ .cells cur 3 (0, 0) := fun e => by
  injection e with _ e2
  exact ht e2
theorem pushed_one (base : Nat) (v : Value) (R : List Int) (y : Int) (hy : -1000000000 ≤ y ∧ y ≤ 1000000000) (W : World) (ho : OwnI 3 base W v R) (hb : base ≤ W.heap.size) (hl : R.length ≤ 100000) :
    Calls Tryz.prog 33 #[v, .slice (some ⟨W.heap.size, 0, none⟩) 1 1] (W.alloc (.cells #[.int .i64 y] 3)) fun e w' => ∃ A c, e = .returned (.slice A (psh R y).length c) ∧ PSt base v (W.alloc (.cells #[.int .i64 y] 3)) (.slice A (psh R y).length c) (psh R y) w' := by
  refine (push_any base v (.slice (some ⟨W.heap.size, 0, none⟩) 1 1) R [y] _ (ho.alloc _) (fun W' hk => ?_) (by simp; omega) (by simp; omega) (fun x hx => by simp at hx; subst hx; exact hy)).mono ?_
  · have h1 : Arr W' W.heap.size 3 [.int .i64 y] := (hk W.heap.size (by simp) (fun e => by
      rcases ho.2 with ⟨rfl, _⟩ | ⟨k, cap, cur, rfl, _, hh, _⟩
      · simp [Value.ownBlock] at e
      · simp [Value.ownBlock] at e
        subst e
        have := (Array.getElem?_eq_some_iff.1 hh).1
        omega)).trans (heap_alloc_new W _)
    exact Ints.of_arr (xs := [y]) h1
  · rintro e w' ⟨v', rfl, hst⟩
    obtain ⟨A, c, rfl⟩ := hst.own.form
    exact ⟨A, c, rfl, hst⟩
theorem OwnI.farZ {e : TypeId} {base : Nat} {w : World} {v : Value} {xs : List Int} {p : Addr} (h : OwnI e base w v xs) (hg : v.ownBlock ≠ some p.block) (u : Value) : OwnI e base (w.setCell p u) v xs := by
  refine ⟨h.1, ?_⟩
  rcases h.2 with h0 | ⟨g, cap, cur, rfl, h1, hh, r⟩
  · exact .inl h0
  · exact .inr ⟨g, cap, cur, rfl, h1, (Below.heap_setCell w p u g (fun e => hg (by rw [← e]; rfl))).trans hh, r⟩
end Go.Proofs.YtlbihllmpbhhcaaGreatDoor
