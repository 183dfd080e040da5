/- slices.Index, sign, grid.Crossings. -/
import Derived.Test.YtgclngoeglopcaaLkq
import Derived.Test.YtgclngoeglopcaaGcol
import Derived.Test.YtgclngoeglopcaaFac2
import Derived.Deep.LoopGhost
import Derived.Deep.RegionHeld3
import Derived.Deep.DeepCutAuto
import Derived.IntWalk
namespace Go.Proofs.Ytgclngoeglopcaa
open Go.RowKit
set_option linter.unusedVariables false

set_option maxHeartbeats 400000 in
theorem index_any (vx : Value) (X : List Int) (y : Int) (k : Nat) (w : World) (hX : Ints w vx X) (hl : X.length ≤ 1000) (hk : k < X.length) (hy : X[k] = y) (hb : ∀ j (h : j < k), X[j] ≠ y) :
    Calls Try.prog 36 #[vx, .int .i64 y] w fun e w' => e = .returned (.int .i64 k) ∧ w = w' := by
  have hX0 := hX
  obtain ⟨A, c, rfl, hc, hh⟩ := hX
  clear hh
  have HB := Lib.hid hb
  have HY := Lib.hid hy
  clear hb hy
  go_enter Try.func36, Try.ntmps36
  go_wp2_with fail
  go_loop [8] (fun i => ∃ j : Nat, j ≤ k ∧ i = .int .i64 j) (fun i => X.length - (intOf i).toNat)
  case atStart => exact ⟨0, Nat.zero_le _, rfl⟩
  case round =>
    obtain ⟨j, hj, rfl⟩ := hrel
    obtain ⟨b, o, rfl, hbl, hcell⟩ := hX0.at_ (show j < X.length by omega)
    have u1 : (j : Int) < (X.length : Int) := by omega
    by_cases e : j = k
    · subst e
      rw [HY.out] at hcell
      have d : (y == y) = true := by simp
      go_wp2_with fail
      go_ret
      exact ⟨rfl, rfl⟩
    · have hne := HB.out j (by omega)
      generalize X[j] = x at *
      have d : (y == x) = false := by simpa using fun h => hne h.symm
      clear hne
      go_wp2_with fail
      go_round
      case rel => exact ⟨j + 1, by omega, by go_num⟩
      case measure => simp [intOf]; omega
theorem index_pm (vx : Value) (X : List Int) (y k : Nat) (w : World) (hX : Ints w vx X) (hl : X.length ≤ 1000) (hp : Pm X) (hk : k < X.length) (hy : gt X k = y) :
    Calls Try.prog 36 #[vx, .int .i64 (y : Int)] w fun e w' => e = .returned (.int .i64 k) ∧ w = w' := by
  rw [gt_get hk] at hy
  exact index_any vx X y k w hX hl hk hy (fun j h e => by have := hp.inj (by omega) hk (e.trans hy.symm); omega)
theorem sign_any (x : Int) (w : World) : Calls Try.prog 38 #[.int .i64 x] w fun e w' => e = .returned (.int .i64 (sgn x)) ∧ w = w' := by
  by_cases h1 : x < 0
  · have hfin := Lib.hid (show sgn x = -1 by simp [sgn, h1])
    go_enter Try.func38, Try.ntmps38
    go_wp2_with fail
    go_ret
    exact ⟨by rw [hfin.out]; rfl, rfl⟩
  · by_cases h2 : 0 < x
    · have hfin := Lib.hid (show sgn x = 1 by simp [sgn, h1, h2])
      go_enter Try.func38, Try.ntmps38
      go_wp2_with fail
      go_ret
      exact ⟨by rw [hfin.out]; rfl, rfl⟩
    · have hfin := Lib.hid (show sgn x = 0 by simp [sgn, h1, h2])
      go_enter Try.func38, Try.ntmps38
      go_wp2_with fail
      go_ret
      exact ⟨by rw [hfin.out]; rfl, rfl⟩

/-- pairs as cells -/
def pc (p : Nat × Nat) : List Value := [.int .i64 p.1, .int .i64 p.2]
def OwnP (base : Nat) (w : World) (v : Value) (ps : List (Nat × Nat)) : Prop := w.ownsRow base 63 2 v ps.length (ps.flatMap pc)
/-- a slice that reads as pairs -/
def Pairs (w : World) (v : Value) (ps : List (Nat × Nat)) : Prop :=
  ∃ A c, v = .slice A ps.length c ∧ ∀ k (h : k < ps.length), ∃ b o, A = some ⟨b, o, none⟩ ∧ w.cell? ⟨b, o + k * 2, none⟩ = some (.int .i64 ps[k].1) ∧ w.cell? ⟨b, o + k * 2 + 1, none⟩ = some (.int .i64 ps[k].2)
theorem Pairs.below {w w' : World} {v : Value} {ps : List (Nat × Nat)} (h : Pairs w v ps) (hb : Below w.heap.size w w') : Pairs w' v ps := by
  obtain ⟨A, c, hv, hx⟩ := h
  refine ⟨A, c, hv, fun k hk => ?_⟩
  obtain ⟨b, o, hA, h1, h2⟩ := hx k hk
  exact ⟨b, o, hA, (hb.cell (block_lt_of_cell h1)).trans h1, (hb.cell (block_lt_of_cell h2)).trans h2⟩
section
variable {base : Nat} {w w' : World} {v : Value} {ps : List (Nat × Nat)}
theorem OwnP.nil (base : Nat) (w : World) : OwnP base w (.slice none 0 0) [] := ⟨rfl, .inl ⟨rfl, rfl⟩⟩
theorem OwnP.form (h : OwnP base w v ps) : ∃ A c, v = .slice A ps.length c := by
  rcases h.2 with ⟨rfl, h0⟩ | ⟨g, cap, cur, rfl, _⟩
  · exact ⟨none, 0, by rw [h0]⟩
  · exact ⟨_, _, rfl⟩
theorem OwnP.lt (h : OwnP base w v ps) : ∀ k, v.ownBlock = some k → base ≤ k ∧ k < w.heap.size := by
  intro k hk
  rcases h.2 with ⟨rfl, h0⟩ | ⟨b, cap, cur, rfl, hg, hh, r⟩
  · simp [Value.ownBlock] at hk
  · simp [Value.ownBlock] at hk
    subst hk
    rcases Nat.lt_or_ge b w.heap.size with hlt | hge
    · exact ⟨hg, hlt⟩
    · rw [Array.getElem?_eq_none hge] at hh; cases hh
theorem OwnP.below (h : OwnP base w v ps) (hb : Below w.heap.size w w') : OwnP base w' v ps := by
  refine ⟨h.1, ?_⟩
  have hl := h.lt
  rcases h.2 with h0 | ⟨b, cap, cur, rfl, hg, hh, r⟩
  · exact .inl h0
  · exact .inr ⟨b, cap, cur, rfl, hg, (hb.block b (hl b rfl).2).trans hh, r⟩
theorem OwnP.alloc (h : OwnP base w v ps) (o : Obj) : OwnP base (w.alloc o) v ps := h.below ((Below.refl _ _).alloc (Nat.le_refl _) o)
theorem pflat_get : ∀ (l : List (Nat × Nat)) (k j : Nat) (h : k < l.length), j < 2 → (l.flatMap pc)[k * 2 + j]? = (pc l[k])[j]? := by
  intro l
  induction l with
  | nil => intro k j h; simp at h
  | cons m l ih =>
    intro k j h hj
    rw [List.flatMap_cons]
    cases k with
    | zero => rw [List.getElem?_append_left (by simp [pc]; omega)]; simp
    | succ k =>
      rw [List.getElem?_append_right (by simp [pc]; omega)]
      have := ih k j (by simpa using h) hj
      rw [show (k + 1) * 2 + j - (pc m).length = k * 2 + j from by simp [pc]; omega, this]
      simp
theorem OwnP.pairs (h : OwnP base w v ps) : Pairs w v ps := by
  rcases h.2 with ⟨rfl, h0⟩ | ⟨g, cap, cur, rfl, hg, hh, hn, _, hc, ht⟩
  · have : ps = [] := List.eq_nil_of_length_eq_zero h0
    subst this
    exact ⟨none, 0, rfl, fun k hk => by simp at hk⟩
  · have key : ∀ k (hk : k < ps.length) j u, (pc ps[k])[j]? = some u → w.cell? ⟨g, 0 + k * 2 + j, none⟩ = some u := by
      intro k hk j u hu
      have hj : j < 2 := (List.getElem?_eq_some_iff.1 hu).1
      rw [cell_of_row w g _ cur 63 (0, 0) hh, Nat.zero_add]
      have h1 : (cur.toList.take (ps.length * 2))[k * 2 + j]? = some u := by rw [ht, pflat_get ps k j hk hj, hu]
      rw [List.getElem?_take, if_pos (by omega)] at h1
      simpa using h1
    exact ⟨_, _, rfl, fun k hk => ⟨g, 0, rfl, key k hk 0 _ rfl, key k hk 1 _ rfl⟩⟩
end
theorem info_pair : (Try.prog.info? 63).map (fun i => (i.zero, i.size, i.bytes)) = some (some (.agg #[.int .i64 0, .int .i64 0]), 2, 16) := by kernel_rfl
theorem wpList_appP {w : World} {base : Nat} {v : Value} {ps : List (Nat × Nat)} {ops : Array Oper} {rest : List Oper} {o : Oper} {a : Act} {Q : Exit → Act → World → Prop} (hgd : o.guard = none) (s x : Operand) (ho : o.op = .call { callee := .builtin .append, args := #[s, x], argTypes := #[61, 61] })
    (hv : a.eval s = v) (h : OwnP base w v ps) {b : Nat} {m : Nat × Nat} (hx : a.eval x = .slice (some ⟨b, 0, none⟩) 1 1) (hu : Arr w b 63 (pc m)) (hlen : ps.length ≤ 100000) (hbase : base ≤ w.heap.size)
    (hK : ∀ v' w', OwnP base w' v' (ps ++ [m]) → Gro base w w' v.ownBlock → wpList Try.prog ops Q rest (a.put o.dst v') w') : wpList Try.prog ops Q (o :: rest) a w := by
  obtain ⟨i, hi, hz, hs, hby⟩ := info_parts info_pair
  have hcells : ∀ j q, (pc m)[j]? = some q → w.cell? ((⟨b, 0, none⟩ : Addr).add j) = some q := by
    intro j q hq
    have : (⟨b, 0, none⟩ : Addr).add j = ⟨b, j, none⟩ := by unfold Addr.add; split <;> simp_all
    rw [this, hu.cell]; exact hq
  obtain ⟨v', w', hrun, h2, h3, _, h5⟩ := run_append_own_at (P := Try.prog) w base 61 o.type 63 i _ 2 16 Try.underlying61 hi hz hs hby rfl (by decide) v ps.length (ps.flatMap pc) h ⟨b, 0, none⟩ 1 1 (pc m) rfl hcells
    (by intro q hq; simp [pc] at hq; rcases hq with rfl | rfl <;> rfl) (by unfold maxLen; omega) (by omega) hbase
  refine wpList_plain hgd fun _ hk => ?_
  unfold Oper.wp execOp
  simp only [ho, resolve, invoke, builtin, Sem.run_bind, Sem.run_pure, Result.andThen_ok, List.map_toArray, List.map_cons, List.map_nil, hv, hx, hrun]
  have hblk : ∀ k, v.ownBlock = some k → base ≤ k := fun k hk => (OwnP.lt h k hk).1
  refine hk _ _ (hK v' w' ?_ ⟨(Below.refl _ _).grown h3 hbase hblk, fun k hk hne => h3.block k hk (fun e => hne e.symm)⟩)
  unfold OwnP
  rw [List.length_append, List.flatMap_append]
  simpa using h2

/-- the crossings of column i below row J, and those of the columns below k -/
def cI (X O : List Int) (i J : Nat) : List (Nat × Nat) := ((List.range J).filter (crB X O i)).map fun j => (i, j)
def crL (X O : List Int) (k : Nat) : List (Nat × Nat) := (List.range k).flatMap fun i => cI X O i X.length
theorem cI_succ (X O : List Int) (i J : Nat) : cI X O i (J + 1) = cI X O i J ++ (if crB X O i J = true then [(i, J)] else []) := by
  unfold cI
  rw [List.range_succ, List.filter_append, List.map_append]
  congr 1
  by_cases h : crB X O i J = true <;> simp [h]
theorem crL_succ (X O : List Int) (k : Nat) : crL X O (k + 1) = crL X O k ++ cI X O k X.length := by
  unfold crL; rw [List.range_succ, List.flatMap_append]; simp
theorem cI_skip (X O : List Int) (i : Nat) {a b : Nat} (hab : a ≤ b) (h : ∀ j, a ≤ j → j < b → crB X O i j = false) : cI X O i b = cI X O i a := by
  have : ∀ m, a + m ≤ b → cI X O i (a + m) = cI X O i a := by
    intro m
    induction m with
    | zero => intro _; rfl
    | succ m ih => intro hm; rw [← Nat.add_assoc, cI_succ, ih (by omega), if_neg (by rw [h _ (by omega) (by omega)]; simp), List.append_nil]
  have := this (b - a) (by omega)
  rwa [show a + (b - a) = b from by omega] at this
theorem cI_len (X O : List Int) (i J : Nat) : (cI X O i J).length ≤ J := by
  unfold cI; rw [List.length_map]; exact Nat.le_trans (List.length_filter_le _ _) (by simp)
theorem crL_len (X O : List Int) (k : Nat) : (crL X O k).length ≤ k * X.length := by
  induction k with
  | zero => simp [crL]
  | succ k ih =>
    rw [crL_succ, List.length_append, Nat.succ_mul]
    have := cI_len X O k X.length
    omega
end Go.Proofs.Ytgclngoeglopcaa
