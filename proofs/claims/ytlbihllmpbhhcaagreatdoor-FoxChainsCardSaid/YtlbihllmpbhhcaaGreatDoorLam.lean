/- Laurent polynomials in memory: slices of terms, polynomials as values. -/
import Derived.Test.YtlbihllmpbhhcaaGreatDoorLau
import Derived.Test.YtlbihllmpbhhcaaGreatDoorBase2
import Derived.Test.YtlbihllmpbhhcaaGreatDoorChecked
import Derived.Maps.AppendAt
import Derived.Deep.AppendLies
import Derived.OwnWalk
namespace Go.Proofs.YtlbihllmpbhhcaaGreatDoor
open Go.RowKit
set_option linter.unusedVariables false

/-- a term as cells -/
def tc (t : Int × Int) : List Value := [.int .i64 t.1, .int .i64 t.2]
def OwnT (base : Nat) (w : World) (v : Value) (l : List (Int × Int)) : Prop := w.ownsRow base 64 2 v l.length (l.flatMap tc)
/-- a block of terms -/
def TB (w : World) (b : Nat) : Prop := ∃ cs fr, w.heap[b]? = some (.cells cs 64 fr)
/-- a slice that reads as terms, in a block of terms -/
def Tms (w : World) (v : Value) (l : List (Int × Int)) : Prop :=
  ∃ A c, v = .slice A l.length c ∧ ∀ k (h : k < l.length), ∃ b o, A = some ⟨b, o, none⟩ ∧ w.cell? ⟨b, o + k * 2, none⟩ = some (.int .i64 l[k].1) ∧ w.cell? ⟨b, o + k * 2 + 1, none⟩ = some (.int .i64 l[k].2) ∧ TB w b
theorem Tms.below {w w' : World} {v : Value} {l : List (Int × Int)} (h : Tms w v l) (hb : Below w.heap.size w w') : Tms w' v l := by
  obtain ⟨A, c, hv, hx⟩ := h
  refine ⟨A, c, hv, fun k hk => ?_⟩
  obtain ⟨b, o, hA, h1, h2, cs, fr, h3⟩ := hx k hk
  exact ⟨b, o, hA, (hb.cell (block_lt_of_cell h1)).trans h1, (hb.cell (block_lt_of_cell h2)).trans h2, cs, fr, (hb.block b (block_lt_of_cell h1)).trans h3⟩
theorem Tms.nil (w : World) : Tms w (.slice none 0 0) [] := ⟨none, 0, rfl, fun k h => (by simp at h)⟩
theorem Tms.at_ {w : World} {A : Option Addr} {n c k : Nat} {l : List (Int × Int)} (h : Tms w (.slice A n c) l) (hk : k < l.length) :
    ∃ b o, A = some ⟨b, o, none⟩ ∧ n = l.length ∧ w.cell? ⟨b, o + k * 2, none⟩ = some (.int .i64 l[k].1) ∧ w.cell? ⟨b, o + k * 2 + 1, none⟩ = some (.int .i64 l[k].2) := by
  obtain ⟨A', c', hv, hx⟩ := h
  injection hv with e1 e2 e3
  subst e1
  obtain ⟨b, o, hA, h1, h2, _⟩ := hx k hk
  exact ⟨b, o, hA, e2, h1, h2⟩
/-- blocks of terms are kept -/
theorem Tms.keepT {w w' : World} {v : Value} {l : List (Int × Int)} (h : Tms w v l) (hk : ∀ b, TB w b → w'.heap[b]? = w.heap[b]?) : Tms w' v l := by
  obtain ⟨A, c, hv, hx⟩ := h
  refine ⟨A, c, hv, fun k hk2 => ?_⟩
  obtain ⟨b, o, hA, h1, h2, h3⟩ := hx k hk2
  have hb := hk b h3
  refine ⟨b, o, hA, ?_, ?_, ?_⟩
  · rw [World.cell?_of_block (a := ⟨b, o + k * 2, none⟩) hb]; exact h1
  · rw [World.cell?_of_block (a := ⟨b, o + k * 2 + 1, none⟩) hb]; exact h2
  · obtain ⟨cs, fr, h4⟩ := h3
    exact ⟨cs, fr, hb.trans h4⟩
theorem Tms.cells {w : World} {b o n c k : Nat} {l : List (Int × Int)} (h : Tms w (.slice (some ⟨b, o, none⟩) n c) l) (hk : k < l.length) : w.cell? ⟨b, o + k * 2, none⟩ = some (.int .i64 l[k].1) ∧ w.cell? ⟨b, o + k * 2 + 1, none⟩ = some (.int .i64 l[k].2) := by
  obtain ⟨b', o', hA, _, h1, h2⟩ := h.at_ hk
  injection hA with hA
  injection hA with h3 h4
  subst h3 h4
  exact ⟨h1, h2⟩
section
variable {base : Nat} {w w' : World} {v : Value} {l : List (Int × Int)}
theorem OwnT.nil (base : Nat) (w : World) : OwnT base w (.slice none 0 0) [] := ⟨rfl, .inl ⟨rfl, rfl⟩⟩
theorem OwnT.form (h : OwnT base w v l) : ∃ A c, v = .slice A l.length c := by
  rcases h.2 with ⟨rfl, h0⟩ | ⟨g, cap, cur, rfl, _⟩
  · exact ⟨none, 0, by rw [h0]⟩
  · exact ⟨_, _, rfl⟩
theorem OwnT.form3 (h : OwnT base w v l) : ∃ A n c, v = .slice A n c := by
  obtain ⟨A, c, e⟩ := h.form
  exact ⟨A, _, c, e⟩
theorem OwnT.lt (h : OwnT base w v l) : ∀ k, v.ownBlock = some k → base ≤ k ∧ k < w.heap.size := by
  intro k hk
  rcases h.2 with ⟨rfl, h0⟩ | ⟨b, cap, cur, rfl, hg, hh, r⟩
  · simp [Value.ownBlock] at hk
  · simp [Value.ownBlock] at hk
    subst hk
    rcases Nat.lt_or_ge b w.heap.size with hlt | hge
    · exact ⟨hg, hlt⟩
    · rw [Array.getElem?_eq_none hge] at hh; cases hh
theorem OwnT.keep (h : OwnT base w v l) (hk : ∀ k, v.ownBlock = some k → w'.heap[k]? = w.heap[k]?) : OwnT base w' v l := by
  refine ⟨h.1, ?_⟩
  rcases h.2 with h0 | ⟨b, cap, cur, rfl, hg, hh, r⟩
  · exact .inl h0
  · exact .inr ⟨b, cap, cur, rfl, hg, (hk b rfl).trans hh, r⟩
theorem OwnT.below (h : OwnT base w v l) (hb : Below w.heap.size w w') : OwnT base w' v l := h.keep fun k hk => hb.block k (h.lt k hk).2
theorem OwnT.far {p : Addr} (h : OwnT base w v l) (hg : v.ownBlock ≠ some p.block) (u : Value) : OwnT base (w.setCell p u) v l := h.keep fun k hk => Below.heap_setCell w p u k (fun e => hg (by rw [← e]; exact hk))
theorem OwnT.drewN (h : OwnT base w v l) (n : Nat) : OwnT base (w.drewN n) v l := h
theorem OwnT.low (h : OwnT base w v l) {b2 : Nat} (hb : b2 ≤ base) : OwnT b2 w v l := by
  refine ⟨h.1, ?_⟩
  rcases h.2 with h0 | ⟨g, cap, cur, rfl, hg, r⟩
  · exact .inl h0
  · exact .inr ⟨g, cap, cur, rfl, Nat.le_trans hb hg, r⟩
/-- a block of another type lies apart -/
theorem OwnT.apart {g : Nat} {t : TypeId} {cs : List Value} (h : OwnT base w v l) (hg : Arr w g t cs) (hne : 64 ≠ t) : v.ownBlock ≠ some g := by
  intro hk
  rcases h.2 with ⟨rfl, h0⟩ | ⟨k, cap, cur, rfl, _, hh, r⟩
  · simp [Value.ownBlock] at hk
  · simp [Value.ownBlock] at hk
    subst hk
    unfold Arr at hg
    rw [hg] at hh
    injection hh with hh
    injection hh with _ h2 _
    exact hne h2.symm
theorem tflat_get : ∀ (l : List (Int × Int)) (k j : Nat) (h : k < l.length), j < 2 → (l.flatMap tc)[k * 2 + j]? = (tc l[k])[j]? := by
  intro l
  induction l with
  | nil => intro k j h; simp at h
  | cons m l ih =>
    intro k j h hj
    rw [List.flatMap_cons]
    cases k with
    | zero => rw [List.getElem?_append_left (by simp [tc]; omega)]; simp
    | succ k =>
      rw [List.getElem?_append_right (by simp [tc]; omega)]
      have := ih k j (by simpa using h) hj
      rw [show (k + 1) * 2 + j - (tc m).length = k * 2 + j from by simp [tc]; omega, this]
      simp
theorem OwnT.tms (h : OwnT base w v l) : Tms w v l := by
  rcases h.2 with ⟨rfl, h0⟩ | ⟨g, cap, cur, rfl, hg, hh, hn, _, hc, ht⟩
  · have : l = [] := List.eq_nil_of_length_eq_zero h0
    subst this
    exact Tms.nil w
  · have key : ∀ k (hk : k < l.length) j u, (tc l[k])[j]? = some u → w.cell? ⟨g, 0 + k * 2 + j, none⟩ = some u := by
      intro k hk j u hu
      have hj : j < 2 := (List.getElem?_eq_some_iff.1 hu).1
      rw [cell_of_row w g _ cur 64 (0, 0) hh, Nat.zero_add]
      have h1 : (cur.toList.take (l.length * 2))[k * 2 + j]? = some u := by rw [ht, tflat_get l k j hk hj, hu]
      rw [List.getElem?_take, if_pos (by omega)] at h1
      simpa using h1
    exact ⟨_, _, rfl, fun k hk => ⟨g, 0, rfl, key k hk 0 _ rfl, key k hk 1 _ rfl, _, _, hh⟩⟩
end
theorem info_term : (Tryz.prog.info? 64).map (fun i => (i.zero, i.size, i.bytes)) = some (some (.agg #[.int .i64 0, .int .i64 0]), 2, 16) := by kernel_rfl
/-- what has not been written: all but some blocks -/
structure Gr (base : Nat) (w w' : World) (z : Option Nat) : Prop where
  below : Below base w w'
  keep : ∀ k, k < w.heap.size → z ≠ some k → w'.heap[k]? = w.heap[k]?
theorem wpList_appT {w : World} {base : Nat} {v : Value} {l : List (Int × Int)} {ops : Array Oper} {rest : List Oper} {o : Oper} {a : Act} {Q : Exit → Act → World → Prop} (hgd : o.guard = none) (s x : Operand) (ho : o.op = .call { callee := .builtin .append, args := #[s, x], argTypes := #[26, 26] })
    (hv : a.eval s = v) (h : OwnT base w v l) {b : Nat} {m : Int × Int} (hx : a.eval x = .slice (some ⟨b, 0, none⟩) 1 1) (hu : Arr w b 64 (tc m)) (hlen : l.length ≤ 100000000) (hbase : base ≤ w.heap.size)
    (hK : ∀ v' w', OwnT base w' v' (l ++ [m]) → Gr base w w' v.ownBlock → wpList Tryz.prog ops Q rest (a.put o.dst v') w') : wpList Tryz.prog ops Q (o :: rest) a w := by
  obtain ⟨i, hi, hz, hs, hby⟩ := info_parts info_term
  have hcells : ∀ j q, (tc m)[j]? = some q → w.cell? ((⟨b, 0, none⟩ : Addr).add j) = some q := by
    intro j q hq
    have : (⟨b, 0, none⟩ : Addr).add j = ⟨b, j, none⟩ := by unfold Addr.add; split <;> simp_all
    rw [this, hu.cell]; exact hq
  obtain ⟨v', w', hrun, h2, h3, _, h5⟩ := run_append_own_at (P := Tryz.prog) w base 26 o.type 64 i _ 2 16 Tryz.underlying26 hi hz hs hby rfl (by decide) v l.length (l.flatMap tc) h ⟨b, 0, none⟩ 1 1 (tc m) rfl hcells
    (by intro q hq; simp [tc] at hq; rcases hq with rfl | rfl <;> rfl) (by unfold maxLen; omega) (by omega) hbase
  refine wpList_plain hgd fun _ hk => ?_
  unfold Oper.wp execOp
  simp only [ho, resolve, invoke, builtin, Sem.run_bind, Sem.run_pure, Result.andThen_ok, List.map_toArray, List.map_cons, List.map_nil, hv, hx, hrun]
  have hblk : ∀ k, v.ownBlock = some k → base ≤ k := fun k hk => (OwnT.lt h k hk).1
  refine hk _ _ (hK v' w' ?_ ⟨(Below.refl _ _).grown h3 hbase hblk, fun k hk hne => h3.block k hk (fun e => hne e.symm)⟩)
  unfold OwnT
  rw [List.length_append, List.flatMap_append]
  simpa using h2
/-- a polynomial as a value -/
def PolyV (w : World) (v : Value) (p : Pol) : Prop := ∃ A c, v = .agg #[.bool p.isNone, .slice A (p.getD []).length c] ∧ Tms w (.slice A (p.getD []).length c) (p.getD [])
theorem PolyV.below {w w' : World} {v : Value} {p : Pol} (h : PolyV w v p) (hb : Below w.heap.size w w') : PolyV w' v p := by
  obtain ⟨A, c, hv, hx⟩ := h
  exact ⟨A, c, hv, hx.below hb⟩
theorem PolyV.big (w : World) : PolyV w (.agg #[.bool true, .slice none 0 0]) none := ⟨none, 0, rfl, Tms.nil w⟩
theorem PolyV.zero (w : World) : PolyV w (.agg #[.bool false, .slice none 0 0]) (some []) := ⟨none, 0, rfl, Tms.nil w⟩
theorem PolyV.own {base : Nat} {w : World} {v : Value} {l : List (Int × Int)} (h : OwnT base w v l) : PolyV w (.agg #[.bool false, v]) (some l) := by
  have h1 := h.tms
  obtain ⟨A, c, rfl⟩ := h.form
  exact ⟨A, c, rfl, h1⟩
theorem info_poly : (Tryz.prog.info? 28).map (·.size) = some 2 := by kernel_rfl
end Go.Proofs.YtlbihllmpbhhcaaGreatDoor
