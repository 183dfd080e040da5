/- gridmove.All and its closure. -/
import Derived.Test.YtgclngoeglopcaaAlp
import Derived.Test.YtgclngoeglopcaaFac2
import Derived.Deep.LoopGhost
namespace Go.Proofs.Ytgclngoeglopcaa
open Go.RowKit
set_option linter.unusedVariables false

/-- a slice of moves of the call's own -/
def OwnM (base : Nat) (w : World) (v : Value) (ms : List Mv) : Prop := w.ownsRow base 26 4 v ms.length (ms.flatMap Mv.cells)
section
variable {base : Nat} {w w' : World} {v : Value} {ms : List Mv}
theorem OwnM.nil (base : Nat) (w : World) : OwnM base w (.slice none 0 0) [] := ⟨rfl, .inl ⟨rfl, rfl⟩⟩
theorem OwnM.form (h : OwnM base w v ms) : ∃ A c, v = .slice A ms.length c := by
  rcases h.2 with ⟨rfl, h0⟩ | ⟨g, cap, cur, rfl, _⟩
  · exact ⟨none, 0, by rw [h0]⟩
  · exact ⟨_, _, rfl⟩
theorem OwnM.lt (h : OwnM base w v ms) : ∀ k, v.ownBlock = some k → base ≤ k ∧ k < w.heap.size := by
  intro k hk
  rcases h.2 with ⟨rfl, h0⟩ | ⟨b, cap, cur, rfl, hg, hh, r⟩
  · simp [Value.ownBlock] at hk
  · simp [Value.ownBlock] at hk
    subst hk
    rcases Nat.lt_or_ge b w.heap.size with hlt | hge
    · exact ⟨hg, hlt⟩
    · rw [Array.getElem?_eq_none hge] at hh; cases hh
theorem OwnM.keep (h : OwnM base w v ms) (hk : ∀ k, v.ownBlock = some k → w'.heap[k]? = w.heap[k]?) : OwnM base w' v ms := by
  refine ⟨h.1, ?_⟩
  rcases h.2 with h0 | ⟨b, cap, cur, rfl, hg, hh, r⟩
  · exact .inl h0
  · exact .inr ⟨b, cap, cur, rfl, hg, (hk b rfl).trans hh, r⟩
theorem OwnM.below (h : OwnM base w v ms) (hb : Below w.heap.size w w') : OwnM base w' v ms := h.keep (fun k hk => hb.block k (h.lt k hk).2)
theorem OwnM.alloc (h : OwnM base w v ms) (o : Obj) : OwnM base (w.alloc o) v ms := h.below ((Below.refl _ _).alloc (Nat.le_refl _) o)
theorem OwnM.far (h : OwnM base w v ms) {p : Addr} (hp : v.ownBlock ≠ some p.block) (u : Value) : OwnM base (w.setCell p u) v ms :=
  h.keep (fun k hk => Below.heap_setCell w p u k (fun e => hp (by rw [hk, e])))
theorem flat_len : ∀ (l : List Mv), (l.flatMap Mv.cells).length = l.length * 4 := by
  intro l
  induction l with
  | nil => rfl
  | cons m l ih => rw [List.flatMap_cons, List.length_append, ih]; simp [Mv.cells]; omega
theorem flat_get : ∀ (l : List Mv) (k j : Nat) (h : k < l.length), j < 4 → (l.flatMap Mv.cells)[k * 4 + j]? = l[k].cells[j]? := by
  intro l
  induction l with
  | nil => intro k j h; simp at h
  | cons m l ih =>
    intro k j h hj
    rw [List.flatMap_cons]
    cases k with
    | zero => rw [List.getElem?_append_left (by simp [Mv.cells]; omega)]; simp
    | succ k =>
      rw [List.getElem?_append_right (by simp [Mv.cells]; omega)]
      have := ih k j (by simpa using h) hj
      rw [show (k + 1) * 4 + j - m.cells.length = k * 4 + j from by simp [Mv.cells]; omega, this]
      simp
theorem OwnM.moves (h : OwnM base w v ms) : Moves w v ms := by
  rcases h.2 with ⟨rfl, h0⟩ | ⟨g, cap, cur, rfl, hg, hh, hn, _, hc, ht⟩
  · have : ms = [] := List.eq_nil_of_length_eq_zero h0
    subst this
    exact ⟨none, 0, rfl, fun k hk => by simp at hk⟩
  · refine ⟨_, _, rfl, fun k hk => ⟨g, 0, rfl, fun j u hu => ?_⟩⟩
    have hj : j < 4 := (List.getElem?_eq_some_iff.1 hu).1
    rw [cell_of_row w g _ cur 26 (0, 0) hh, Nat.zero_add]
    have h1 : (cur.toList.take (ms.length * 4))[k * 4 + j]? = some u := by rw [ht, flat_get ms k j hk hj, hu]
    rw [List.getElem?_take, if_pos (by omega)] at h1
    simpa using h1
end
theorem info_move : (Try.prog.info? 26).map (fun i => (i.zero, i.size, i.bytes)) = some (some (.agg #[.int .i64 0, .bool false, .int .i64 0, .int .i64 0]), 4, 32) := by kernel_rfl
theorem wpList_appM {w : World} {base : Nat} {v : Value} {ms : List Mv} {ops : Array Oper} {rest : List Oper} {o : Oper} {a : Act} {Q : Exit → Act → World → Prop} (hgd : o.guard = none) (s x : Operand) (ho : o.op = .call { callee := .builtin .append, args := #[s, x], argTypes := #[39, 39] })
    (hv : a.eval s = v) (h : OwnM base w v ms) {b : Nat} {m : Mv} (hx : a.eval x = .slice (some ⟨b, 0, none⟩) 1 1) (hu : Arr w b 26 m.cells) (hlen : ms.length ≤ 100000) (hbase : base ≤ w.heap.size)
    (hK : ∀ v' w', OwnM base w' v' (ms ++ [m]) → Gro base w w' v.ownBlock → (v'.ownBlock = v.ownBlock ∨ v'.ownBlock = some w.heap.size) → wpList Try.prog ops Q rest (a.put o.dst v') w') : wpList Try.prog ops Q (o :: rest) a w := by
  obtain ⟨i, hi, hz, hs, hby⟩ := info_parts info_move
  have hcells : ∀ j q, m.cells[j]? = some q → w.cell? ((⟨b, 0, none⟩ : Addr).add j) = some q := by
    intro j q hq
    have : (⟨b, 0, none⟩ : Addr).add j = ⟨b, j, none⟩ := by unfold Addr.add; split <;> simp_all
    rw [this, hu.cell]; exact hq
  obtain ⟨v', w', hrun, h2, h3, _, h5⟩ := run_append_own_at (P := Try.prog) w base 39 o.type 26 i _ 4 32 Try.underlying39 hi hz hs hby rfl (by decide) v ms.length (ms.flatMap Mv.cells) h ⟨b, 0, none⟩ 1 1 m.cells rfl hcells
    (by intro q hq; simp [Mv.cells] at hq; rcases hq with rfl | rfl | rfl | rfl <;> rfl) (by unfold maxLen; omega) (by omega) hbase
  refine wpList_plain hgd fun _ hk => ?_
  unfold Oper.wp execOp
  simp only [ho, resolve, invoke, builtin, Sem.run_bind, Sem.run_pure, Result.andThen_ok, List.map_toArray, List.map_cons, List.map_nil, hv, hx, hrun]
  have hblk : ∀ k, v.ownBlock = some k → base ≤ k := fun k hk => (OwnM.lt h k hk).1
  refine hk _ _ (hK v' w' ?_ ⟨(Below.refl _ _).grown h3 hbase hblk, fun k hk hne => h3.block k hk (fun e => hne e.symm)⟩ h5)
  unfold OwnM
  rw [List.length_append, List.flatMap_append]
  simpa using h2

def okB (X O : List Int) (m : Mv) : Bool := decide ((m.app X O).1 = 0)
/-- what a call of the closure does -/
def TryPost (B L : Nat) (X O : List Int) (m : Mv) (ms : List Mv) (w : World) (e : Ending) (w' : World) : Prop :=
  (∃ v, e = .returned v) ∧ (∃ v', Arr w' L 39 [v'] ∧ OwnM B w' v' (if okB X O m = true then ms ++ [m] else ms)) ∧ Below L w w'
set_option maxHeartbeats 1000000 in
theorem try_any (m : Mv) (gb L B : Nat) (v vx vo : Value) (ms : List Mv) (X O : List Int) (w : World) (hX : Ints w vx X) (hO : Ints w vo O) (l1 : X.length ≤ 1000) (l2 : O.length ≤ 1000) (hG : Arr w gb 24 [vx, vo]) (hL : Arr w L 39 [v]) (hown : OwnM B w v ms) (hLB : L < B) (hB : B ≤ w.heap.size) (hlen : ms.length ≤ 100000) :
    Calls Try.prog 35 #[.agg #[.int .i64 m.k, .bool m.rows, .int .i64 m.a, .int .i64 m.v], .pointer (some ⟨gb, 0, none⟩), .pointer (some ⟨L, 0, none⟩)] w (TryPost B L X O m ms w) := by
  have hX0 := hX
  have hO0 := hO
  obtain ⟨A, c, rfl, hc, hh⟩ := hX
  obtain ⟨A', c', rfl, hc', hh'⟩ := hO
  clear hh hh'
  have HOK := Lib.hid (show okB X O m = decide ((applyM X O m.k m.rows m.a m.v).1 = 0) from rfl)
  have HMC := Lib.hid (show m.cells = [.int .i64 m.k, .bool m.rows, .int .i64 m.a, .int .i64 m.v] from rfl)
  go_enter Try.func35, Try.ntmps35
  have gl := hG.lt
  have ll := hL.lt
  have hbA : Below L w (w.alloc (.cells #[.int .i64 m.k, .bool m.rows, .int .i64 m.a, .int .i64 m.v] 26)) := (Below.refl _ _).alloc (by omega) _
  have hW : Arr (w.alloc (.cells #[.int .i64 m.k, .bool m.rows, .int .i64 m.a, .int .i64 m.v] 26)) gb 24 [.slice A X.length c, .slice A' O.length c'] ∧ Arr (w.alloc (.cells #[.int .i64 m.k, .bool m.rows, .int .i64 m.a, .int .i64 m.v] 26)) w.heap.size 26 [.int .i64 m.k, .bool m.rows, .int .i64 m.a, .int .i64 m.v] ∧ Arr (w.alloc (.cells #[.int .i64 m.k, .bool m.rows, .int .i64 m.a, .int .i64 m.v] 26)) L 39 [v] ∧ OwnM B (w.alloc (.cells #[.int .i64 m.k, .bool m.rows, .int .i64 m.a, .int .i64 m.v] 26)) v ms ∧ Below w.heap.size w (w.alloc (.cells #[.int .i64 m.k, .bool m.rows, .int .i64 m.a, .int .i64 m.v] 26)) :=
    ⟨hG.alloc _, Arr.new _ _ [_, _, _, _], hL.alloc _, hown.alloc _, (Below.refl _ _).alloc (Nat.le_refl _) _⟩
  have y0 := (hG.alloc (.cells #[.int .i64 m.k, .bool m.rows, .int .i64 m.a, .int .i64 m.v] 26)).cell 0
  have y1 := (hG.alloc (.cells #[.int .i64 m.k, .bool m.rows, .int .i64 m.a, .int .i64 m.v] 26)).cell 1
  clear hG hL hown
  go_wp2_with fail
  clear y0 y1
  generalize hS : w.heap.size = N at *
  generalize w.alloc (.cells #[.int .i64 m.k, .bool m.rows, .int .i64 m.a, .int .i64 m.v] 26) = w4 at hW hbA ⊢
  obtain ⟨g0, m0, L0, own0, hb4⟩ := hW
  rw [← hS] at hb4
  refine (apply_rd _ _ X O m.k m.rows m.a m.v _ (hX0.below hb4) (hO0.below hb4) l1 l2).mono ?_
  rintro e w5 ⟨hb5, A0, n0, c0, A1, n1, c1, rfl, _, _⟩
  have m1 := m0.below hb5 m0.lt
  have L1 := L0.below hb5 L0.lt
  have own1 := own0.below hb5
  have hbL := hbA.trans (hb5.mono (by have := hb4.size; omega))
  have hsz := Nat.le_trans hb4.size hb5.size
  clear g0 m0 L0 own0 hb5 hb4 hbA
  cases hok : okB X O m with
  | false =>
    have hne : ¬ (applyM X O m.k m.rows m.a m.v).1 = 0 := by have := HOK.out; rw [hok] at this; exact of_decide_eq_false this.symm
    have u0 : ((applyM X O m.k m.rows m.a m.v).1 == 0) = false := by simpa using hne
    have HF := Lib.hid hok
    clear hok hne
    generalize (applyM X O m.k m.rows m.a m.v).1 = cd at *
    go_wp2_with fail
    go_end0
    exact ⟨⟨_, rfl⟩, ⟨v, L1.alloc _, by rw [HF.out, if_neg (by simp)]; exact own1.alloc _⟩, hbL.alloc (by omega) _⟩
  | true =>
    have hne : (applyM X O m.k m.rows m.a m.v).1 = 0 := by have := HOK.out; rw [hok] at this; exact of_decide_eq_true this.symm
    have HF := Lib.hid hok
    clear hok
    rw [hne]
    clear hne
    have hW : Arr (w5.alloc (.cells #[.slice A0 n0 c0, .slice A1 n1 c1] 24)) N 26 [.int .i64 m.k, .bool m.rows, .int .i64 m.a, .int .i64 m.v] ∧ Arr (w5.alloc (.cells #[.slice A0 n0 c0, .slice A1 n1 c1] 24)) L 39 [v] ∧ OwnM B (w5.alloc (.cells #[.slice A0 n0 c0, .slice A1 n1 c1] 24)) v ms ∧ Below L w (w5.alloc (.cells #[.slice A0 n0 c0, .slice A1 n1 c1] 24)) := ⟨m1.alloc _, L1.alloc _, own1.alloc _, hbL.alloc (by omega) _⟩
    have hs6 : w5.heap.size < (w5.alloc (.cells #[.slice A0 n0 c0, .slice A1 n1 c1] 24)).heap.size := by simp
    go_upto_region 3 with fail
    generalize w5.alloc (.cells #[.slice A0 n0 c0, .slice A1 n1 c1] 24) = w6 at hW hs6 ⊢
    clear m1 L1 own1 hbL
    obtain ⟨m1, L1, own1, hbL⟩ := hW
    have z0 := m1.cell 0
    have z1 := m1.cell 1
    have z2 := m1.cell 2
    have z3 := m1.cell 3
    have t0 := L1.cell 0
    have hA7 := Arr.new w6 26 [.int .i64 m.k, .bool m.rows, .int .i64 m.a, .int .i64 m.v]
    rw [← HMC.out] at hA7
    have HA7 := Lib.hid hA7
    obtain ⟨Av, cv, rfl⟩ := own1.form
    clear hA7
    go_wp2_with ((at_builtin; refine wpList_appM rfl _ _ rfl rfl (own1.alloc _) (m := m) rfl (by have := HA7.out; rw [HMC.out] at this ⊢; exact this) hlen (by simp; omega) ?_; intro v' w7 hown7 hg7 hbk; obtain ⟨Av', cv', rfl⟩ := hown7.form; have L7 : Arr w7 L 39 [.slice Av ms.length cv] := (L1.alloc _).gro hg7 (fun h => by have := (own1.lt L h).1; omega); have q0 := L7.cell 0; have q1 := L7.frozen 0))
    have ho7 : (Value.slice Av' (ms ++ [m]).length cv').ownBlock ≠ some L := fun h => by have := (hown7.lt L h).1; omega
    have hbL7 := (hbL.alloc (by omega) (.cells #[.int .i64 m.k, .bool m.rows, .int .i64 m.a, .int .i64 m.v] 26)).trans (hg7.bel.mono (by omega))
    clear z0 z1 z2 z3 t0
    go_end0
    exact ⟨⟨_, rfl⟩, ⟨_, L7.set 0 _, by rw [HF.out, if_pos rfl]; have h9 := hown7.far (p := ⟨L, 0, none⟩) ho7 (.slice Av' (ms ++ [m]).length cv'); rw [show (ms ++ [m]).length = ms.length + 1 by simp] at h9; exact h9⟩, hbL7.setCell (Nat.le_refl _) _⟩

def allM (X O : List Int) (st : Bool) : List Mv := if validB X O = true then cK (okB X O) (fun k => (limVar k X.length).toNat) (fun k => (limAt k X.length).toNat) (if st = true then 4 else 3) else []
/-- the list so far, and what stays -/
def AllI (N B gb L : Nat) (vx vo : Value) (w wr : World) (P : List Mv) : Prop :=
  (∃ v, Arr wr L 39 [v] ∧ OwnM B wr v P) ∧ Arr wr gb 24 [vx, vo] ∧ Below N w wr ∧ B ≤ wr.heap.size
def AllPost (w : World) (L : List Mv) (e : Ending) (w' : World) : Prop := ∃ v, e = .returned v ∧ Moves w' v L ∧ Below w.heap.size w w'

set_option maxRecDepth 100000 in
set_option maxHeartbeats 4000000 in
theorem all_true (vx vo : Value) (X O : List Int) (w : World) (hX : Ints w vx X) (hO : Ints w vo O) (l1 : X.length ≤ 1000) (l2 : O.length ≤ 1000) (hv : validB X O = true) :
    Calls Try.prog 20 #[.agg #[vx, vo], .bool true] w (AllPost w (allM X O true)) := by
  have hX0 := hX
  have hO0 := hO
  obtain ⟨A, c, rfl, hc, hh⟩ := hX
  obtain ⟨A', c', rfl, hc', hh'⟩ := hO
  clear hh hh'
  have hfin := Lib.hid (show allM X O true = cK (okB X O) (fun k => (limVar k X.length).toNat) (fun k => (limAt k X.length).toNat) 4 by unfold allM; rw [if_pos hv]; rfl)
  have vf := Lib.hid (validB_facts hv)
  have n2 : 2 ≤ X.length := vf.out.1
  have n40 : X.length ≤ 40 := vf.out.2.1
  have x0 : ∀ w, (Instr.index 59 (.agg #[.bool false, .bool true]) (.int .i64 0)).run Try.prog w = .ok (.bool false) w := fun _ => by kernel_rfl
  have x1 : ∀ w, (Instr.index 59 (.agg #[.bool false, .bool true]) (.int .i64 1)).run Try.prog w = .ok (.bool true) w := fun _ => by kernel_rfl
  go_enter Try.func20, Try.ntmps20
  go_wp2_with fail
  have hW : Arr (w.alloc (.cells #[.slice A X.length c, .slice A' O.length c'] 24)) w.heap.size 24 [.slice A X.length c, .slice A' O.length c'] ∧ Below w.heap.size w (w.alloc (.cells #[.slice A X.length c, .slice A' O.length c'] 24)) := ⟨Arr.new _ _ [_, _], (Below.refl _ _).alloc (Nat.le_refl _) _⟩
  generalize w.alloc (.cells #[.slice A X.length c, .slice A' O.length c'] 24) = w4 at hW ⊢
  obtain ⟨q0, hb4⟩ := hW
  refine (valid_any _ _ X O _ (hX0.below hb4) (hO0.below hb4) l1 l2).mono ?_
  rw [hv]
  rintro e w5 ⟨rfl, hb5⟩
  have hbw5 := hb4.trans (hb5.mono hb4.size)
  have p0 := q0.below hb5 q0.lt
  clear q0 hb5 hb4 hv
  have lw := p0.lt
  have hI : AllI w.heap.size (w5.heap.size + 1) w.heap.size w5.heap.size (.slice A X.length c) (.slice A' O.length c') w (w5.alloc (.cells #[.slice none 0 0] 39)) (cK (okB X O) (fun k => (limVar k X.length).toNat) (fun k => (limAt k X.length).toNat) 0) :=
    ⟨⟨_, Arr.new w5 39 [.slice none 0 0], OwnM.nil _ _⟩, p0.alloc _, hbw5.alloc hbw5.size _, by simp⟩
  clear p0 hbw5
  go_wp2_with fail
  generalize w5.heap.size = L at *
  generalize w5.alloc (.cells #[.slice none 0 0] 39) = w6 at hI ⊢
  go_loopg [8] 4 (fun gk s8 wr => ∃ j : Nat, j ≤ 4 ∧ gk = 4 - j ∧ s8 = .int .i64 ((j : Int) + 1) ∧ AllI w.heap.size (L + 1) w.heap.size L (.slice A X.length c) (.slice A' O.length c') w wr (cK (okB X O) (fun k => (limVar k X.length).toNat) (fun k => (limAt k X.length).toNat) j))
  case atStart => exact ⟨0, Nat.zero_le _, rfl, rfl, hI⟩
  case round =>
    clear hI
    obtain ⟨j, hj, rfl, rfl, hI⟩ := hrel
    by_cases hlt : j < 4
    · have y0 := hI.2.1.cell 0
      have u1 : (j : Int) + 1 ≤ 4 := by omega
      obtain ⟨la, lv, hla, hlv, bla, blv⟩ : ∃ la lv : Nat, Hid (limAt ((j : Int) + 1) X.length = la) ∧ Hid (limVar ((j : Int) + 1) X.length = lv) ∧ la ≤ 41 ∧ lv ≤ 80 := by
        have h1 : 0 ≤ limAt ((j : Int) + 1) X.length ∧ limAt ((j : Int) + 1) X.length ≤ 41 := by unfold limAt; repeat' split <;> try omega
        have h2 : 0 ≤ limVar ((j : Int) + 1) X.length ∧ limVar ((j : Int) + 1) X.length ≤ 80 := by unfold limVar; repeat' split <;> try omega
        exact ⟨_, _, (Int.toNat_of_nonneg h1.1).symm, (Int.toNat_of_nonneg h2.1).symm, by omega, by omega⟩
      have HS := Lib.hid (show cK (okB X O) (fun k => (limVar k X.length).toNat) (fun k => (limAt k X.length).toNat) (j + 1) = cK (okB X O) (fun k => (limVar k X.length).toNat) (fun k => (limAt k X.length).toNat) j ++ cR (okB X O) ((j : Int) + 1) lv la 2 by rw [cK_succ]; simp only [hla.out, hlv.out, Int.toNat_natCast])
      have HP := Lib.hid (fun (i a u : Nat) (hi : i < 2) (ha : a < la) (hu : u ≤ lv) => (show (cK (okB X O) (fun k => (limVar k X.length).toNat) (fun k => (limAt k X.length).toNat) j ++ (cR (okB X O) ((j : Int) + 1) lv la i ++ (cA (okB X O) ((j : Int) + 1) (decide (i = 1)) lv a ++ cV (okB X O) ((j : Int) + 1) (decide (i = 1)) a u))).length ≤ 100000 by
        have h1 := (pre_prefix (okB X O) (fun k => (limVar k X.length).toNat) (fun k => (limAt k X.length).toNat) hlt hi (a := a) (u := u) (by simp only [hla.out, Int.toNat_natCast]; exact ha) (by simp only [hlv.out, Int.toNat_natCast]; exact hu)).length_le
        simp only [hla.out, hlv.out, Int.toNat_natCast] at h1
        have h2 := cK_len (okB X O) (fun k => (limVar k X.length).toNat) (fun k => (limAt k X.length).toNat) 4 (fun j hj => by simp only [limVar, limAt]; constructor <;> repeat' split <;> omega)
        omega))
      go_wp2_with fail
      refine (limits_any ((j : Int) + 1) X.length _ (by omega) (by omega)).mono ?_
      rintro e w7 ⟨rfl, rfl⟩
      rw [hla.out, hlv.out]
      clear hla hlv y0
      obtain ⟨wo, rfl⟩ : ∃ wo : World, wo = wr := ⟨_, rfl⟩
      go_wp2_with fail
      go_loopg [34] 2 (fun gi s34 wi => ∃ i : Nat, i ≤ 2 ∧ gi = 2 - i ∧ s34 = .int .i64 (i : Int) ∧ AllI w.heap.size (L + 1) w.heap.size L (.slice A X.length c) (.slice A' O.length c') w wi (cK (okB X O) (fun k => (limVar k X.length).toNat) (fun k => (limAt k X.length).toNat) j ++ cR (okB X O) ((j : Int) + 1) lv la i))
      case atStart => exact ⟨0, Nat.zero_le _, rfl, rfl, by rw [show cR (okB X O) ((j : Int) + 1) lv la 0 = [] from rfl, List.append_nil]; exact hI⟩
      case round =>
        clear hI
        obtain ⟨i, hi, rfl, rfl, hI⟩ := hrel
        by_cases hi2 : i < 2
        · obtain rfl | rfl : i = 0 ∨ i = 1 := by omega
          · go_wp2_with fail
            obtain ⟨wo2, rfl⟩ : ∃ wo2 : World, wo2 = wr := ⟨_, rfl⟩
            go_loopg [38] la (fun ga s38 wi => ∃ a : Nat, a ≤ la ∧ ga = la - a ∧ s38 = .int .i64 (a : Int) ∧ AllI w.heap.size (L + 1) w.heap.size L (.slice A X.length c) (.slice A' O.length c') w wi (cK (okB X O) (fun k => (limVar k X.length).toNat) (fun k => (limAt k X.length).toNat) j ++ (cR (okB X O) ((j : Int) + 1) lv la 0 ++ cA (okB X O) ((j : Int) + 1) false lv a)))
            case atStart => exact ⟨0, Nat.zero_le _, rfl, rfl, by rw [show cA (okB X O) ((j : Int) + 1) false lv 0 = [] from rfl, List.append_nil]; exact hI⟩
            case round =>
              clear hI
              obtain ⟨a, ha, rfl, rfl, hI⟩ := hrel
              by_cases hla' : a < la
              · have u2 : (a : Int) < (la : Int) := by omega
                go_wp2_with fail
                obtain ⟨wo3, rfl⟩ : ∃ wo3 : World, wo3 = wr := ⟨_, rfl⟩
                go_loopg [42] lv (fun gu s42 wi => ∃ u : Nat, u ≤ lv ∧ gu = lv - u ∧ s42 = .int .i64 (u : Int) ∧ AllI w.heap.size (L + 1) w.heap.size L (.slice A X.length c) (.slice A' O.length c') w wi (cK (okB X O) (fun k => (limVar k X.length).toNat) (fun k => (limAt k X.length).toNat) j ++ (cR (okB X O) ((j : Int) + 1) lv la 0 ++ (cA (okB X O) ((j : Int) + 1) false lv a ++ cV (okB X O) ((j : Int) + 1) false a u))))
                case atStart => exact ⟨0, Nat.zero_le _, rfl, rfl, by rw [show cV (okB X O) ((j : Int) + 1) false a 0 = [] from rfl, List.append_nil]; exact hI⟩
                case round =>
                  clear hI
                  obtain ⟨u, hu, rfl, rfl, hI⟩ := hrel
                  by_cases hlv' : u < lv
                  · have u3 : (u : Int) < (lv : Int) := by omega
                    have hlen := HP.out 0 a u (by omega) hla' hu
                    have HE := Lib.hid (show cV (okB X O) ((j : Int) + 1) false a (u + 1) = cV (okB X O) ((j : Int) + 1) false a u ++ (if okB X O ⟨(j : Int) + 1, false, a, u⟩ = true then [⟨(j : Int) + 1, false, a, u⟩] else []) from cV_succ _ _ _ _ _)
                    obtain ⟨⟨v, hL, hown⟩, hG, hbr, hB⟩ := hI
                    have gl := hG.lt
                    have lL := hL.lt
                    have HC := Lib.hid (try_any ⟨(j : Int) + 1, false, a, u⟩ w.heap.size L (L + 1) v (.slice A X.length c) (.slice A' O.length c') _ X O wr (hX0.below hbr) (hO0.below hbr) l1 l2 hG hL hown (by omega) hB hlen)
                    go_wp2_with fail
                    refine HC.out.mono ?_
                    rintro e w9 ⟨⟨v9, rfl⟩, ⟨v', hL', hown'⟩, hb9⟩
                    have hsz := hb9.size
                    have hI' : AllI w.heap.size (L + 1) w.heap.size L (.slice A X.length c) (.slice A' O.length c') w w9 (cK (okB X O) (fun k => (limVar k X.length).toNat) (fun k => (limAt k X.length).toNat) j ++ (cR (okB X O) ((j : Int) + 1) lv la 0 ++ (cA (okB X O) ((j : Int) + 1) false lv a ++ cV (okB X O) ((j : Int) + 1) false a (u + 1)))) := by
                      refine ⟨⟨v', hL', ?_⟩, hG.below hb9 (by omega), hbr.trans (hb9.mono (by omega)), by omega⟩
                      rw [HE.out]
                      by_cases hk : okB X O ⟨(j : Int) + 1, false, a, u⟩ = true
                      · rw [if_pos hk] at hown' ⊢
                        simpa [List.append_assoc] using hown'
                      · rw [if_neg hk] at hown' ⊢
                        simpa [List.append_assoc] using hown'
                    clear hL' hown' hb9 hL hown hG hbr HC HE
                    go_wp2_with fail
                    go_roundg (lv - (u + 1))
                    case measure => omega
                    case rel => exact ⟨u + 1, by omega, rfl, by go_num, hI'⟩
                  · have hu2 : u = lv := by omega
                    have u3 : ¬ (u : Int) < (lv : Int) := by omega
                    have hI' : AllI w.heap.size (L + 1) w.heap.size L (.slice A X.length c) (.slice A' O.length c') w wr (cK (okB X O) (fun k => (limVar k X.length).toNat) (fun k => (limAt k X.length).toNat) j ++ (cR (okB X O) ((j : Int) + 1) lv la 0 ++ cA (okB X O) ((j : Int) + 1) false lv (a + 1))) := by rw [hu2] at hI; rw [cA_succ]; exact hI
                    clear hu2 hI
                    go_wp2_with fail
                    go_roundg (la - (a + 1))
                    case measure => omega
                    case rel => exact ⟨a + 1, by omega, rfl, by go_num, hI'⟩
              · have ha2 : a = la := by omega
                have u2 : ¬ (a : Int) < (la : Int) := by omega
                have hI' : AllI w.heap.size (L + 1) w.heap.size L (.slice A X.length c) (.slice A' O.length c') w wr (cK (okB X O) (fun k => (limVar k X.length).toNat) (fun k => (limAt k X.length).toNat) j ++ cR (okB X O) ((j : Int) + 1) lv la (0 + 1)) := by rw [ha2] at hI; rw [cR_succ, show decide (0 = 1) = false from rfl]; exact hI
                clear ha2 hI
                go_wp2_with fail
                go_roundg (2 - (0 + 1))
                case measure => omega
                case rel => exact ⟨0 + 1, by omega, rfl, by go_num, hI'⟩
          · go_wp2_with fail
            obtain ⟨wo2, rfl⟩ : ∃ wo2 : World, wo2 = wr := ⟨_, rfl⟩
            go_loopg [38] la (fun ga s38 wi => ∃ a : Nat, a ≤ la ∧ ga = la - a ∧ s38 = .int .i64 (a : Int) ∧ AllI w.heap.size (L + 1) w.heap.size L (.slice A X.length c) (.slice A' O.length c') w wi (cK (okB X O) (fun k => (limVar k X.length).toNat) (fun k => (limAt k X.length).toNat) j ++ (cR (okB X O) ((j : Int) + 1) lv la 1 ++ cA (okB X O) ((j : Int) + 1) true lv a)))
            case atStart => exact ⟨0, Nat.zero_le _, rfl, rfl, by rw [show cA (okB X O) ((j : Int) + 1) true lv 0 = [] from rfl, List.append_nil]; exact hI⟩
            case round =>
              clear hI
              obtain ⟨a, ha, rfl, rfl, hI⟩ := hrel
              by_cases hla' : a < la
              · have u2 : (a : Int) < (la : Int) := by omega
                go_wp2_with fail
                obtain ⟨wo3, rfl⟩ : ∃ wo3 : World, wo3 = wr := ⟨_, rfl⟩
                go_loopg [42] lv (fun gu s42 wi => ∃ u : Nat, u ≤ lv ∧ gu = lv - u ∧ s42 = .int .i64 (u : Int) ∧ AllI w.heap.size (L + 1) w.heap.size L (.slice A X.length c) (.slice A' O.length c') w wi (cK (okB X O) (fun k => (limVar k X.length).toNat) (fun k => (limAt k X.length).toNat) j ++ (cR (okB X O) ((j : Int) + 1) lv la 1 ++ (cA (okB X O) ((j : Int) + 1) true lv a ++ cV (okB X O) ((j : Int) + 1) true a u))))
                case atStart => exact ⟨0, Nat.zero_le _, rfl, rfl, by rw [show cV (okB X O) ((j : Int) + 1) true a 0 = [] from rfl, List.append_nil]; exact hI⟩
                case round =>
                  clear hI
                  obtain ⟨u, hu, rfl, rfl, hI⟩ := hrel
                  by_cases hlv' : u < lv
                  · have u3 : (u : Int) < (lv : Int) := by omega
                    have hlen := HP.out 1 a u (by omega) hla' hu
                    have HE := Lib.hid (show cV (okB X O) ((j : Int) + 1) true a (u + 1) = cV (okB X O) ((j : Int) + 1) true a u ++ (if okB X O ⟨(j : Int) + 1, true, a, u⟩ = true then [⟨(j : Int) + 1, true, a, u⟩] else []) from cV_succ _ _ _ _ _)
                    obtain ⟨⟨v, hL, hown⟩, hG, hbr, hB⟩ := hI
                    have gl := hG.lt
                    have lL := hL.lt
                    have HC := Lib.hid (try_any ⟨(j : Int) + 1, true, a, u⟩ w.heap.size L (L + 1) v (.slice A X.length c) (.slice A' O.length c') _ X O wr (hX0.below hbr) (hO0.below hbr) l1 l2 hG hL hown (by omega) hB hlen)
                    go_wp2_with fail
                    refine HC.out.mono ?_
                    rintro e w9 ⟨⟨v9, rfl⟩, ⟨v', hL', hown'⟩, hb9⟩
                    have hsz := hb9.size
                    have hI' : AllI w.heap.size (L + 1) w.heap.size L (.slice A X.length c) (.slice A' O.length c') w w9 (cK (okB X O) (fun k => (limVar k X.length).toNat) (fun k => (limAt k X.length).toNat) j ++ (cR (okB X O) ((j : Int) + 1) lv la 1 ++ (cA (okB X O) ((j : Int) + 1) true lv a ++ cV (okB X O) ((j : Int) + 1) true a (u + 1)))) := by
                      refine ⟨⟨v', hL', ?_⟩, hG.below hb9 (by omega), hbr.trans (hb9.mono (by omega)), by omega⟩
                      rw [HE.out]
                      by_cases hk : okB X O ⟨(j : Int) + 1, true, a, u⟩ = true
                      · rw [if_pos hk] at hown' ⊢
                        simpa [List.append_assoc] using hown'
                      · rw [if_neg hk] at hown' ⊢
                        simpa [List.append_assoc] using hown'
                    clear hL' hown' hb9 hL hown hG hbr HC HE
                    go_wp2_with fail
                    go_roundg (lv - (u + 1))
                    case measure => omega
                    case rel => exact ⟨u + 1, by omega, rfl, by go_num, hI'⟩
                  · have hu2 : u = lv := by omega
                    have u3 : ¬ (u : Int) < (lv : Int) := by omega
                    have hI' : AllI w.heap.size (L + 1) w.heap.size L (.slice A X.length c) (.slice A' O.length c') w wr (cK (okB X O) (fun k => (limVar k X.length).toNat) (fun k => (limAt k X.length).toNat) j ++ (cR (okB X O) ((j : Int) + 1) lv la 1 ++ cA (okB X O) ((j : Int) + 1) true lv (a + 1))) := by rw [hu2] at hI; rw [cA_succ]; exact hI
                    clear hu2 hI
                    go_wp2_with fail
                    go_roundg (la - (a + 1))
                    case measure => omega
                    case rel => exact ⟨a + 1, by omega, rfl, by go_num, hI'⟩
              · have ha2 : a = la := by omega
                have u2 : ¬ (a : Int) < (la : Int) := by omega
                have hI' : AllI w.heap.size (L + 1) w.heap.size L (.slice A X.length c) (.slice A' O.length c') w wr (cK (okB X O) (fun k => (limVar k X.length).toNat) (fun k => (limAt k X.length).toNat) j ++ cR (okB X O) ((j : Int) + 1) lv la (1 + 1)) := by rw [ha2] at hI; rw [cR_succ, show decide (1 = 1) = true from rfl]; exact hI
                clear ha2 hI
                go_wp2_with fail
                go_roundg (2 - (1 + 1))
                case measure => omega
                case rel => exact ⟨1 + 1, by omega, rfl, by go_num, hI'⟩
        · have hii : i = 2 := by omega
          subst hii
          rw [← HS.out] at hI
          go_wp2_with fail
          go_roundg (4 - (j + 1))
          case measure => omega
          case rel => exact ⟨j + 1, by omega, rfl, by go_num, hI⟩
    · have hj2 : j = 4 := by omega
      subst hj2
      have u1 : ¬ (((4 : Nat) : Int) + 1 ≤ 4) := by omega
      obtain ⟨⟨v, hL, hown⟩, hG, hbr, hB⟩ := hI
      obtain ⟨Av, cv, rfl⟩ := hown.form
      have z0 := hL.cell 0
      go_wp2_with fail
      go_ret
      exact ⟨_, rfl, by rw [hfin.out]; exact hown.moves, hbr⟩

set_option maxRecDepth 100000 in
set_option maxHeartbeats 4000000 in
theorem all_false (vx vo : Value) (X O : List Int) (w : World) (hX : Ints w vx X) (hO : Ints w vo O) (l1 : X.length ≤ 1000) (l2 : O.length ≤ 1000) (hv : validB X O = true) :
    Calls Try.prog 20 #[.agg #[vx, vo], .bool false] w (AllPost w (allM X O false)) := by
  have hX0 := hX
  have hO0 := hO
  obtain ⟨A, c, rfl, hc, hh⟩ := hX
  obtain ⟨A', c', rfl, hc', hh'⟩ := hO
  clear hh hh'
  have hfin := Lib.hid (show allM X O false = cK (okB X O) (fun k => (limVar k X.length).toNat) (fun k => (limAt k X.length).toNat) 3 by unfold allM; rw [if_pos hv]; rfl)
  have vf := Lib.hid (validB_facts hv)
  have n2 : 2 ≤ X.length := vf.out.1
  have n40 : X.length ≤ 40 := vf.out.2.1
  have x0 : ∀ w, (Instr.index 59 (.agg #[.bool false, .bool true]) (.int .i64 0)).run Try.prog w = .ok (.bool false) w := fun _ => by kernel_rfl
  have x1 : ∀ w, (Instr.index 59 (.agg #[.bool false, .bool true]) (.int .i64 1)).run Try.prog w = .ok (.bool true) w := fun _ => by kernel_rfl
  go_enter Try.func20, Try.ntmps20
  go_wp2_with fail
  have hW : Arr (w.alloc (.cells #[.slice A X.length c, .slice A' O.length c'] 24)) w.heap.size 24 [.slice A X.length c, .slice A' O.length c'] ∧ Below w.heap.size w (w.alloc (.cells #[.slice A X.length c, .slice A' O.length c'] 24)) := ⟨Arr.new _ _ [_, _], (Below.refl _ _).alloc (Nat.le_refl _) _⟩
  generalize w.alloc (.cells #[.slice A X.length c, .slice A' O.length c'] 24) = w4 at hW ⊢
  obtain ⟨q0, hb4⟩ := hW
  refine (valid_any _ _ X O _ (hX0.below hb4) (hO0.below hb4) l1 l2).mono ?_
  rw [hv]
  rintro e w5 ⟨rfl, hb5⟩
  have hbw5 := hb4.trans (hb5.mono hb4.size)
  have p0 := q0.below hb5 q0.lt
  clear q0 hb5 hb4 hv
  have lw := p0.lt
  have hI : AllI w.heap.size (w5.heap.size + 1) w.heap.size w5.heap.size (.slice A X.length c) (.slice A' O.length c') w (w5.alloc (.cells #[.slice none 0 0] 39)) (cK (okB X O) (fun k => (limVar k X.length).toNat) (fun k => (limAt k X.length).toNat) 0) :=
    ⟨⟨_, Arr.new w5 39 [.slice none 0 0], OwnM.nil _ _⟩, p0.alloc _, hbw5.alloc hbw5.size _, by simp⟩
  clear p0 hbw5
  go_wp2_with fail
  generalize w5.heap.size = L at *
  generalize w5.alloc (.cells #[.slice none 0 0] 39) = w6 at hI ⊢
  go_loopg [8] 3 (fun gk s8 wr => ∃ j : Nat, j ≤ 3 ∧ gk = 3 - j ∧ s8 = .int .i64 ((j : Int) + 1) ∧ AllI w.heap.size (L + 1) w.heap.size L (.slice A X.length c) (.slice A' O.length c') w wr (cK (okB X O) (fun k => (limVar k X.length).toNat) (fun k => (limAt k X.length).toNat) j))
  case atStart => exact ⟨0, Nat.zero_le _, rfl, rfl, hI⟩
  case round =>
    clear hI
    obtain ⟨j, hj, rfl, rfl, hI⟩ := hrel
    by_cases hlt : j < 3
    · have y0 := hI.2.1.cell 0
      have u1 : (j : Int) + 1 ≤ 3 := by omega
      obtain ⟨la, lv, hla, hlv, bla, blv⟩ : ∃ la lv : Nat, Hid (limAt ((j : Int) + 1) X.length = la) ∧ Hid (limVar ((j : Int) + 1) X.length = lv) ∧ la ≤ 41 ∧ lv ≤ 80 := by
        have h1 : 0 ≤ limAt ((j : Int) + 1) X.length ∧ limAt ((j : Int) + 1) X.length ≤ 41 := by unfold limAt; repeat' split <;> try omega
        have h2 : 0 ≤ limVar ((j : Int) + 1) X.length ∧ limVar ((j : Int) + 1) X.length ≤ 80 := by unfold limVar; repeat' split <;> try omega
        exact ⟨_, _, (Int.toNat_of_nonneg h1.1).symm, (Int.toNat_of_nonneg h2.1).symm, by omega, by omega⟩
      have HS := Lib.hid (show cK (okB X O) (fun k => (limVar k X.length).toNat) (fun k => (limAt k X.length).toNat) (j + 1) = cK (okB X O) (fun k => (limVar k X.length).toNat) (fun k => (limAt k X.length).toNat) j ++ cR (okB X O) ((j : Int) + 1) lv la 2 by rw [cK_succ]; simp only [hla.out, hlv.out, Int.toNat_natCast])
      have HP := Lib.hid (fun (i a u : Nat) (hi : i < 2) (ha : a < la) (hu : u ≤ lv) => (show (cK (okB X O) (fun k => (limVar k X.length).toNat) (fun k => (limAt k X.length).toNat) j ++ (cR (okB X O) ((j : Int) + 1) lv la i ++ (cA (okB X O) ((j : Int) + 1) (decide (i = 1)) lv a ++ cV (okB X O) ((j : Int) + 1) (decide (i = 1)) a u))).length ≤ 100000 by
        have h1 := (pre_prefix (okB X O) (fun k => (limVar k X.length).toNat) (fun k => (limAt k X.length).toNat) hlt hi (a := a) (u := u) (by simp only [hla.out, Int.toNat_natCast]; exact ha) (by simp only [hlv.out, Int.toNat_natCast]; exact hu)).length_le
        simp only [hla.out, hlv.out, Int.toNat_natCast] at h1
        have h2 := cK_len (okB X O) (fun k => (limVar k X.length).toNat) (fun k => (limAt k X.length).toNat) 3 (fun j hj => by simp only [limVar, limAt]; constructor <;> repeat' split <;> omega)
        omega))
      go_wp2_with fail
      refine (limits_any ((j : Int) + 1) X.length _ (by omega) (by omega)).mono ?_
      rintro e w7 ⟨rfl, rfl⟩
      rw [hla.out, hlv.out]
      clear hla hlv y0
      obtain ⟨wo, rfl⟩ : ∃ wo : World, wo = wr := ⟨_, rfl⟩
      go_wp2_with fail
      go_loopg [34] 2 (fun gi s34 wi => ∃ i : Nat, i ≤ 2 ∧ gi = 2 - i ∧ s34 = .int .i64 (i : Int) ∧ AllI w.heap.size (L + 1) w.heap.size L (.slice A X.length c) (.slice A' O.length c') w wi (cK (okB X O) (fun k => (limVar k X.length).toNat) (fun k => (limAt k X.length).toNat) j ++ cR (okB X O) ((j : Int) + 1) lv la i))
      case atStart => exact ⟨0, Nat.zero_le _, rfl, rfl, by rw [show cR (okB X O) ((j : Int) + 1) lv la 0 = [] from rfl, List.append_nil]; exact hI⟩
      case round =>
        clear hI
        obtain ⟨i, hi, rfl, rfl, hI⟩ := hrel
        by_cases hi2 : i < 2
        · obtain rfl | rfl : i = 0 ∨ i = 1 := by omega
          · go_wp2_with fail
            obtain ⟨wo2, rfl⟩ : ∃ wo2 : World, wo2 = wr := ⟨_, rfl⟩
            go_loopg [38] la (fun ga s38 wi => ∃ a : Nat, a ≤ la ∧ ga = la - a ∧ s38 = .int .i64 (a : Int) ∧ AllI w.heap.size (L + 1) w.heap.size L (.slice A X.length c) (.slice A' O.length c') w wi (cK (okB X O) (fun k => (limVar k X.length).toNat) (fun k => (limAt k X.length).toNat) j ++ (cR (okB X O) ((j : Int) + 1) lv la 0 ++ cA (okB X O) ((j : Int) + 1) false lv a)))
            case atStart => exact ⟨0, Nat.zero_le _, rfl, rfl, by rw [show cA (okB X O) ((j : Int) + 1) false lv 0 = [] from rfl, List.append_nil]; exact hI⟩
            case round =>
              clear hI
              obtain ⟨a, ha, rfl, rfl, hI⟩ := hrel
              by_cases hla' : a < la
              · have u2 : (a : Int) < (la : Int) := by omega
                go_wp2_with fail
                obtain ⟨wo3, rfl⟩ : ∃ wo3 : World, wo3 = wr := ⟨_, rfl⟩
                go_loopg [42] lv (fun gu s42 wi => ∃ u : Nat, u ≤ lv ∧ gu = lv - u ∧ s42 = .int .i64 (u : Int) ∧ AllI w.heap.size (L + 1) w.heap.size L (.slice A X.length c) (.slice A' O.length c') w wi (cK (okB X O) (fun k => (limVar k X.length).toNat) (fun k => (limAt k X.length).toNat) j ++ (cR (okB X O) ((j : Int) + 1) lv la 0 ++ (cA (okB X O) ((j : Int) + 1) false lv a ++ cV (okB X O) ((j : Int) + 1) false a u))))
                case atStart => exact ⟨0, Nat.zero_le _, rfl, rfl, by rw [show cV (okB X O) ((j : Int) + 1) false a 0 = [] from rfl, List.append_nil]; exact hI⟩
                case round =>
                  clear hI
                  obtain ⟨u, hu, rfl, rfl, hI⟩ := hrel
                  by_cases hlv' : u < lv
                  · have u3 : (u : Int) < (lv : Int) := by omega
                    have hlen := HP.out 0 a u (by omega) hla' hu
                    have HE := Lib.hid (show cV (okB X O) ((j : Int) + 1) false a (u + 1) = cV (okB X O) ((j : Int) + 1) false a u ++ (if okB X O ⟨(j : Int) + 1, false, a, u⟩ = true then [⟨(j : Int) + 1, false, a, u⟩] else []) from cV_succ _ _ _ _ _)
                    obtain ⟨⟨v, hL, hown⟩, hG, hbr, hB⟩ := hI
                    have gl := hG.lt
                    have lL := hL.lt
                    have HC := Lib.hid (try_any ⟨(j : Int) + 1, false, a, u⟩ w.heap.size L (L + 1) v (.slice A X.length c) (.slice A' O.length c') _ X O wr (hX0.below hbr) (hO0.below hbr) l1 l2 hG hL hown (by omega) hB hlen)
                    go_wp2_with fail
                    refine HC.out.mono ?_
                    rintro e w9 ⟨⟨v9, rfl⟩, ⟨v', hL', hown'⟩, hb9⟩
                    have hsz := hb9.size
                    have hI' : AllI w.heap.size (L + 1) w.heap.size L (.slice A X.length c) (.slice A' O.length c') w w9 (cK (okB X O) (fun k => (limVar k X.length).toNat) (fun k => (limAt k X.length).toNat) j ++ (cR (okB X O) ((j : Int) + 1) lv la 0 ++ (cA (okB X O) ((j : Int) + 1) false lv a ++ cV (okB X O) ((j : Int) + 1) false a (u + 1)))) := by
                      refine ⟨⟨v', hL', ?_⟩, hG.below hb9 (by omega), hbr.trans (hb9.mono (by omega)), by omega⟩
                      rw [HE.out]
                      by_cases hk : okB X O ⟨(j : Int) + 1, false, a, u⟩ = true
                      · rw [if_pos hk] at hown' ⊢
                        simpa [List.append_assoc] using hown'
                      · rw [if_neg hk] at hown' ⊢
                        simpa [List.append_assoc] using hown'
                    clear hL' hown' hb9 hL hown hG hbr HC HE
                    go_wp2_with fail
                    go_roundg (lv - (u + 1))
                    case measure => omega
                    case rel => exact ⟨u + 1, by omega, rfl, by go_num, hI'⟩
                  · have hu2 : u = lv := by omega
                    have u3 : ¬ (u : Int) < (lv : Int) := by omega
                    have hI' : AllI w.heap.size (L + 1) w.heap.size L (.slice A X.length c) (.slice A' O.length c') w wr (cK (okB X O) (fun k => (limVar k X.length).toNat) (fun k => (limAt k X.length).toNat) j ++ (cR (okB X O) ((j : Int) + 1) lv la 0 ++ cA (okB X O) ((j : Int) + 1) false lv (a + 1))) := by rw [hu2] at hI; rw [cA_succ]; exact hI
                    clear hu2 hI
                    go_wp2_with fail
                    go_roundg (la - (a + 1))
                    case measure => omega
                    case rel => exact ⟨a + 1, by omega, rfl, by go_num, hI'⟩
              · have ha2 : a = la := by omega
                have u2 : ¬ (a : Int) < (la : Int) := by omega
                have hI' : AllI w.heap.size (L + 1) w.heap.size L (.slice A X.length c) (.slice A' O.length c') w wr (cK (okB X O) (fun k => (limVar k X.length).toNat) (fun k => (limAt k X.length).toNat) j ++ cR (okB X O) ((j : Int) + 1) lv la (0 + 1)) := by rw [ha2] at hI; rw [cR_succ, show decide (0 = 1) = false from rfl]; exact hI
                clear ha2 hI
                go_wp2_with fail
                go_roundg (2 - (0 + 1))
                case measure => omega
                case rel => exact ⟨0 + 1, by omega, rfl, by go_num, hI'⟩
          · go_wp2_with fail
            obtain ⟨wo2, rfl⟩ : ∃ wo2 : World, wo2 = wr := ⟨_, rfl⟩
            go_loopg [38] la (fun ga s38 wi => ∃ a : Nat, a ≤ la ∧ ga = la - a ∧ s38 = .int .i64 (a : Int) ∧ AllI w.heap.size (L + 1) w.heap.size L (.slice A X.length c) (.slice A' O.length c') w wi (cK (okB X O) (fun k => (limVar k X.length).toNat) (fun k => (limAt k X.length).toNat) j ++ (cR (okB X O) ((j : Int) + 1) lv la 1 ++ cA (okB X O) ((j : Int) + 1) true lv a)))
            case atStart => exact ⟨0, Nat.zero_le _, rfl, rfl, by rw [show cA (okB X O) ((j : Int) + 1) true lv 0 = [] from rfl, List.append_nil]; exact hI⟩
            case round =>
              clear hI
              obtain ⟨a, ha, rfl, rfl, hI⟩ := hrel
              by_cases hla' : a < la
              · have u2 : (a : Int) < (la : Int) := by omega
                go_wp2_with fail
                obtain ⟨wo3, rfl⟩ : ∃ wo3 : World, wo3 = wr := ⟨_, rfl⟩
                go_loopg [42] lv (fun gu s42 wi => ∃ u : Nat, u ≤ lv ∧ gu = lv - u ∧ s42 = .int .i64 (u : Int) ∧ AllI w.heap.size (L + 1) w.heap.size L (.slice A X.length c) (.slice A' O.length c') w wi (cK (okB X O) (fun k => (limVar k X.length).toNat) (fun k => (limAt k X.length).toNat) j ++ (cR (okB X O) ((j : Int) + 1) lv la 1 ++ (cA (okB X O) ((j : Int) + 1) true lv a ++ cV (okB X O) ((j : Int) + 1) true a u))))
                case atStart => exact ⟨0, Nat.zero_le _, rfl, rfl, by rw [show cV (okB X O) ((j : Int) + 1) true a 0 = [] from rfl, List.append_nil]; exact hI⟩
                case round =>
                  clear hI
                  obtain ⟨u, hu, rfl, rfl, hI⟩ := hrel
                  by_cases hlv' : u < lv
                  · have u3 : (u : Int) < (lv : Int) := by omega
                    have hlen := HP.out 1 a u (by omega) hla' hu
                    have HE := Lib.hid (show cV (okB X O) ((j : Int) + 1) true a (u + 1) = cV (okB X O) ((j : Int) + 1) true a u ++ (if okB X O ⟨(j : Int) + 1, true, a, u⟩ = true then [⟨(j : Int) + 1, true, a, u⟩] else []) from cV_succ _ _ _ _ _)
                    obtain ⟨⟨v, hL, hown⟩, hG, hbr, hB⟩ := hI
                    have gl := hG.lt
                    have lL := hL.lt
                    have HC := Lib.hid (try_any ⟨(j : Int) + 1, true, a, u⟩ w.heap.size L (L + 1) v (.slice A X.length c) (.slice A' O.length c') _ X O wr (hX0.below hbr) (hO0.below hbr) l1 l2 hG hL hown (by omega) hB hlen)
                    go_wp2_with fail
                    refine HC.out.mono ?_
                    rintro e w9 ⟨⟨v9, rfl⟩, ⟨v', hL', hown'⟩, hb9⟩
                    have hsz := hb9.size
                    have hI' : AllI w.heap.size (L + 1) w.heap.size L (.slice A X.length c) (.slice A' O.length c') w w9 (cK (okB X O) (fun k => (limVar k X.length).toNat) (fun k => (limAt k X.length).toNat) j ++ (cR (okB X O) ((j : Int) + 1) lv la 1 ++ (cA (okB X O) ((j : Int) + 1) true lv a ++ cV (okB X O) ((j : Int) + 1) true a (u + 1)))) := by
                      refine ⟨⟨v', hL', ?_⟩, hG.below hb9 (by omega), hbr.trans (hb9.mono (by omega)), by omega⟩
                      rw [HE.out]
                      by_cases hk : okB X O ⟨(j : Int) + 1, true, a, u⟩ = true
                      · rw [if_pos hk] at hown' ⊢
                        simpa [List.append_assoc] using hown'
                      · rw [if_neg hk] at hown' ⊢
                        simpa [List.append_assoc] using hown'
                    clear hL' hown' hb9 hL hown hG hbr HC HE
                    go_wp2_with fail
                    go_roundg (lv - (u + 1))
                    case measure => omega
                    case rel => exact ⟨u + 1, by omega, rfl, by go_num, hI'⟩
                  · have hu2 : u = lv := by omega
                    have u3 : ¬ (u : Int) < (lv : Int) := by omega
                    have hI' : AllI w.heap.size (L + 1) w.heap.size L (.slice A X.length c) (.slice A' O.length c') w wr (cK (okB X O) (fun k => (limVar k X.length).toNat) (fun k => (limAt k X.length).toNat) j ++ (cR (okB X O) ((j : Int) + 1) lv la 1 ++ cA (okB X O) ((j : Int) + 1) true lv (a + 1))) := by rw [hu2] at hI; rw [cA_succ]; exact hI
                    clear hu2 hI
                    go_wp2_with fail
                    go_roundg (la - (a + 1))
                    case measure => omega
                    case rel => exact ⟨a + 1, by omega, rfl, by go_num, hI'⟩
              · have ha2 : a = la := by omega
                have u2 : ¬ (a : Int) < (la : Int) := by omega
                have hI' : AllI w.heap.size (L + 1) w.heap.size L (.slice A X.length c) (.slice A' O.length c') w wr (cK (okB X O) (fun k => (limVar k X.length).toNat) (fun k => (limAt k X.length).toNat) j ++ cR (okB X O) ((j : Int) + 1) lv la (1 + 1)) := by rw [ha2] at hI; rw [cR_succ, show decide (1 = 1) = true from rfl]; exact hI
                clear ha2 hI
                go_wp2_with fail
                go_roundg (2 - (1 + 1))
                case measure => omega
                case rel => exact ⟨1 + 1, by omega, rfl, by go_num, hI'⟩
        · have hii : i = 2 := by omega
          subst hii
          rw [← HS.out] at hI
          go_wp2_with fail
          go_roundg (3 - (j + 1))
          case measure => omega
          case rel => exact ⟨j + 1, by omega, rfl, by go_num, hI⟩
    · have hj2 : j = 3 := by omega
      subst hj2
      have u1 : ¬ (((3 : Nat) : Int) + 1 ≤ 3) := by omega
      obtain ⟨⟨v, hL, hown⟩, hG, hbr, hB⟩ := hI
      obtain ⟨Av, cv, rfl⟩ := hown.form
      have z0 := hL.cell 0
      go_wp2_with fail
      go_ret
      exact ⟨_, rfl, by rw [hfin.out]; exact hown.moves, hbr⟩

set_option maxHeartbeats 1000000 in
theorem all_any (vx vo : Value) (X O : List Int) (st : Bool) (w : World) (hX : Ints w vx X) (hO : Ints w vo O) (l1 : X.length ≤ 1000) (l2 : O.length ≤ 1000) :
    Calls Try.prog 20 #[.agg #[vx, vo], .bool st] w (AllPost w (allM X O st)) := by
  by_cases hv : validB X O = true
  · cases st
    · exact all_false vx vo X O w hX hO l1 l2 hv
    · exact all_true vx vo X O w hX hO l1 l2 hv
  · have hX0 := hX
    have hO0 := hO
    obtain ⟨A, c, rfl, hc, hh⟩ := hX
    obtain ⟨A', c', rfl, hc', hh'⟩ := hO
    clear hh hh'
    have hfin := Lib.hid (show allM X O st = [] by unfold allM; rw [if_neg hv])
    have HV := Lib.hid (show validB X O = false by simpa using hv)
    clear hv
    go_enter Try.func20, Try.ntmps20
    go_wp2_with fail
    have hb4 : Below w.heap.size w (w.alloc (.cells #[.slice A X.length c, .slice A' O.length c'] 24)) := (Below.refl _ _).alloc (Nat.le_refl _) _
    refine (valid_any _ _ X O _ (hX0.below hb4) (hO0.below hb4) l1 l2).mono ?_
    rw [HV.out]
    rintro e w5 ⟨rfl, hb5⟩
    go_wp2_with fail
    go_ret
    exact ⟨_, rfl, by rw [hfin.out]; exact ⟨none, 0, rfl, fun k hk => by simp at hk⟩, hb4.trans (hb5.mono hb4.size)⟩
end Go.Proofs.Ytgclngoeglopcaa
