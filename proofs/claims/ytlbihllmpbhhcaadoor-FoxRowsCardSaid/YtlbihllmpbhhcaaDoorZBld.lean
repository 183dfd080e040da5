/- Laurent polynomials in memory: slices of terms, polynomials as values. -/
/- strings.Builder: copyCheck, WriteByte, WriteString (the shelf's do not lie over this dump). -/
import Derived.Test.YtlbihllmpbhhcaaDoorZBase2
import Derived.Test.YtlbihllmpbhhcaaDoorChecked
import Derived.Maps.AppendAt
import Derived.Deep.AppendLies
import Derived.OwnWalk
import Derived.Test.YtlbihllmpbhhcaaDoorShelf
import Derived.Shelf.Strings.Builder1
namespace Go.Proofs.YtlbihllmpbhhcaaDoor
open Go.RowKit
set_option linter.unusedVariables false

/-- a term as cells -/
def tc (t : Int × Int) : List Value := [.int .i64 t.1, .int .i64 t.2]
def OwnT (base : Nat) (w : World) (v : Value) (l : List (Int × Int)) : Prop := w.ownsRow base 77 2 v l.length (l.flatMap tc)
/-- a block of terms -/
def TB (w : World) (b : Nat) : Prop := ∃ cs fr, w.heap[b]? = some (.cells cs 77 fr)
/-- a slice that reads as terms, in a block of terms -/
def Tms (w : World) (v : Value) (l : List (Int × Int)) : Prop :=
  ∃ A c, v = .slice A l.length c ∧ ∀ k (h : k < l.length), ∃ b o, A = some ⟨b, o, none⟩ ∧ w.cell? ⟨b, o + k * 2, none⟩ = some (.int .i64 l[k].1) ∧ w.cell? ⟨b, o + k * 2 + 1, none⟩ = some (.int .i64 l[k].2) ∧ TB w b
theorem Tms.below {w w' : World} {v : Value} {l : List (Int × Int)} (h : Tms w v l) (hb : Below w.heap.size w w') : Tms w' v l := by
  obtain ⟨A, c, hv, hx⟩ := h
  refine ⟨A, c, hv, fun k hk => ?_⟩
  obtain ⟨b, o, hA, h1, h2, cs, fr, h3⟩ := hx k hk
  exact ⟨b, o, hA, (hb.cell (block_lt_of_cell h1)).trans h1, (hb.cell (block_lt_of_cell h2)).trans h2, cs, fr, (hb.block b (block_lt_of_cell h1)).trans h3⟩
theorem Tms.nil (w : World) : Tms w (.slice none 0 0) [] := ⟨none, 0, rfl, fun k h => (by simp at h)⟩
theorem Tms.at_ {w : World} {A : Option Addr} {n c k : Nat} {l : List (Int × Int)} (h : Tms w (.slice A n c) l) (hk : k < l.length) :
    ∃ b o, A = some ⟨b, o, none⟩ ∧ n = l.length ∧ w.cell? ⟨b, o + k * 2, none⟩ = some (.int .i64 l[k].1) ∧ w.cell? ⟨b, o + k * 2 + 1, none⟩ = some (.int .i64 l[k].2) := by
  obtain ⟨A', c', hv, hx⟩ := h
  injection hv with e1 e2 e3
  subst e1
  obtain ⟨b, o, hA, h1, h2, _⟩ := hx k hk
  exact ⟨b, o, hA, e2, h1, h2⟩
/-- blocks of terms are kept -/
theorem Tms.keepT {w w' : World} {v : Value} {l : List (Int × Int)} (h : Tms w v l) (hk : ∀ b, TB w b → w'.heap[b]? = w.heap[b]?) : Tms w' v l := by
  obtain ⟨A, c, hv, hx⟩ := h
  refine ⟨A, c, hv, fun k hk2 => ?_⟩
  obtain ⟨b, o, hA, h1, h2, h3⟩ := hx k hk2
  have hb := hk b h3
  refine ⟨b, o, hA, ?_, ?_, ?_⟩
  · rw [World.cell?_of_block (a := ⟨b, o + k * 2, none⟩) hb]; exact h1
  · rw [World.cell?_of_block (a := ⟨b, o + k * 2 + 1, none⟩) hb]; exact h2
  · obtain ⟨cs, fr, h4⟩ := h3
    exact ⟨cs, fr, hb.trans h4⟩
theorem Tms.cells {w : World} {b o n c k : Nat} {l : List (Int × Int)} (h : Tms w (.slice (some ⟨b, o, none⟩) n c) l) (hk : k < l.length) : w.cell? ⟨b, o + k * 2, none⟩ = some (.int .i64 l[k].1) ∧ w.cell? ⟨b, o + k * 2 + 1, none⟩ = some (.int .i64 l[k].2) := by
  obtain ⟨b', o', hA, _, h1, h2⟩ := h.at_ hk
  injection hA with hA
  injection hA with h3 h4
  subst h3 h4
  exact ⟨h1, h2⟩
section
variable {base : Nat} {w w' : World} {v : Value} {l : List (Int × Int)}
theorem OwnT.nil (base : Nat) (w : World) : OwnT base w (.slice none 0 0) [] := ⟨rfl, .inl ⟨rfl, rfl⟩⟩
theorem OwnT.form (h : OwnT base w v l) : ∃ A c, v = .slice A l.length c := by
  rcases h.2 with ⟨rfl, h0⟩ | ⟨g, cap, cur, rfl, _⟩
  · exact ⟨none, 0, by rw [h0]⟩
  · exact ⟨_, _, rfl⟩
theorem OwnT.form3 (h : OwnT base w v l) : ∃ A n c, v = .slice A n c := by
  obtain ⟨A, c, e⟩ := h.form
  exact ⟨A, _, c, e⟩
theorem OwnT.lt (h : OwnT base w v l) : ∀ k, v.ownBlock = some k → base ≤ k ∧ k < w.heap.size := by
  intro k hk
  rcases h.2 with ⟨rfl, h0⟩ | ⟨b, cap, cur, rfl, hg, hh, r⟩
  · simp [Value.ownBlock] at hk
  · simp [Value.ownBlock] at hk
    subst hk
    rcases Nat.lt_or_ge b w.heap.size with hlt | hge
    · exact ⟨hg, hlt⟩
    · rw [Array.getElem?_eq_none hge] at hh; cases hh
theorem OwnT.keep (h : OwnT base w v l) (hk : ∀ k, v.ownBlock = some k → w'.heap[k]? = w.heap[k]?) : OwnT base w' v l := by
  refine ⟨h.1, ?_⟩
  rcases h.2 with h0 | ⟨b, cap, cur, rfl, hg, hh, r⟩
  · exact .inl h0
  · exact .inr ⟨b, cap, cur, rfl, hg, (hk b rfl).trans hh, r⟩
theorem OwnT.below (h : OwnT base w v l) (hb : Below w.heap.size w w') : OwnT base w' v l := h.keep fun k hk => hb.block k (h.lt k hk).2
theorem OwnT.far {p : Addr} (h : OwnT base w v l) (hg : v.ownBlock ≠ some p.block) (u : Value) : OwnT base (w.setCell p u) v l := h.keep fun k hk => Below.heap_setCell w p u k (fun e => hg (by rw [← e]; exact hk))
theorem OwnT.drewN (h : OwnT base w v l) (n : Nat) : OwnT base (w.drewN n) v l := h
theorem OwnT.low (h : OwnT base w v l) {b2 : Nat} (hb : b2 ≤ base) : OwnT b2 w v l := by
  refine ⟨h.1, ?_⟩
  rcases h.2 with h0 | ⟨g, cap, cur, rfl, hg, r⟩
  · exact .inl h0
  · exact .inr ⟨g, cap, cur, rfl, Nat.le_trans hb hg, r⟩
/-- a block of another type lies apart -/
theorem OwnT.apart {g : Nat} {t : TypeId} {cs : List Value} (h : OwnT base w v l) (hg : Arr w g t cs) (hne : 77 ≠ t) : v.ownBlock ≠ some g := by
  intro hk
  rcases h.2 with ⟨rfl, h0⟩ | ⟨k, cap, cur, rfl, _, hh, r⟩
  · simp [Value.ownBlock] at hk
  · simp [Value.ownBlock] at hk
    subst hk
    unfold Arr at hg
    rw [hg] at hh
    injection hh with hh
    injection hh with _ h2 _
    exact hne h2.symm
theorem tflat_get : ∀ (l : List (Int × Int)) (k j : Nat) (h : k < l.length), j < 2 → (l.flatMap tc)[k * 2 + j]? = (tc l[k])[j]? := by
  intro l
  induction l with
  | nil => intro k j h; simp at h
  | cons m l ih =>
    intro k j h hj
    rw [List.flatMap_cons]
    cases k with
    | zero => rw [List.getElem?_append_left (by simp [tc]; omega)]; simp
    | succ k =>
      rw [List.getElem?_append_right (by simp [tc]; omega)]
      have := ih k j (by simpa using h) hj
      rw [show (k + 1) * 2 + j - (tc m).length = k * 2 + j from by simp [tc]; omega, this]
      simp
theorem OwnT.tms (h : OwnT base w v l) : Tms w v l := by
  rcases h.2 with ⟨rfl, h0⟩ | ⟨g, cap, cur, rfl, hg, hh, hn, _, hc, ht⟩
  · have : l = [] := List.eq_nil_of_length_eq_zero h0
    subst this
    exact Tms.nil w
  · have key : ∀ k (hk : k < l.length) j u, (tc l[k])[j]? = some u → w.cell? ⟨g, 0 + k * 2 + j, none⟩ = some u := by
      intro k hk j u hu
      have hj : j < 2 := (List.getElem?_eq_some_iff.1 hu).1
      rw [cell_of_row w g _ cur 77 (0, 0) hh, Nat.zero_add]
      have h1 : (cur.toList.take (l.length * 2))[k * 2 + j]? = some u := by rw [ht, tflat_get l k j hk hj, hu]
      rw [List.getElem?_take, if_pos (by omega)] at h1
      simpa using h1
    exact ⟨_, _, rfl, fun k hk => ⟨g, 0, rfl, key k hk 0 _ rfl, key k hk 1 _ rfl, _, _, hh⟩⟩
end
theorem info_term : (Tryd.prog.info? 77).map (fun i => (i.zero, i.size, i.bytes)) = some (some (.agg #[.int .i64 0, .int .i64 0]), 2, 16) := by kernel_rfl
/-- what has not been written: all but some blocks -/
structure Gr (base : Nat) (w w' : World) (z : Option Nat) : Prop where
  below : Below base w w'
  keep : ∀ k, k < w.heap.size → z ≠ some k → w'.heap[k]? = w.heap[k]?
theorem wpList_appT {w : World} {base : Nat} {v : Value} {l : List (Int × Int)} {ops : Array Oper} {rest : List Oper} {o : Oper} {a : Act} {Q : Exit → Act → World → Prop} (hgd : o.guard = none) (s x : Operand) (ho : o.op = .call { callee := .builtin .append, args := #[s, x], argTypes := #[25, 25] })
    (hv : a.eval s = v) (h : OwnT base w v l) {b : Nat} {m : Int × Int} (hx : a.eval x = .slice (some ⟨b, 0, none⟩) 1 1) (hu : Arr w b 77 (tc m)) (hlen : l.length ≤ 100000000) (hbase : base ≤ w.heap.size)
    (hK : ∀ v' w', OwnT base w' v' (l ++ [m]) → Gr base w w' v.ownBlock → wpList Tryd.prog ops Q rest (a.put o.dst v') w') : wpList Tryd.prog ops Q (o :: rest) a w := by
  obtain ⟨i, hi, hz, hs, hby⟩ := info_parts info_term
  have hcells : ∀ j q, (tc m)[j]? = some q → w.cell? ((⟨b, 0, none⟩ : Addr).add j) = some q := by
    intro j q hq
    have : (⟨b, 0, none⟩ : Addr).add j = ⟨b, j, none⟩ := by unfold Addr.add; split <;> simp_all
    rw [this, hu.cell]; exact hq
  obtain ⟨v', w', hrun, h2, h3, _, h5⟩ := run_append_own_at (P := Tryd.prog) w base 25 o.type 77 i _ 2 16 Tryd.underlying25 hi hz hs hby rfl (by decide) v l.length (l.flatMap tc) h ⟨b, 0, none⟩ 1 1 (tc m) rfl hcells
    (by intro q hq; simp [tc] at hq; rcases hq with rfl | rfl <;> rfl) (by unfold maxLen; omega) (by omega) hbase
  refine wpList_plain hgd fun _ hk => ?_
  unfold Oper.wp execOp
  simp only [ho, resolve, invoke, builtin, Sem.run_bind, Sem.run_pure, Result.andThen_ok, List.map_toArray, List.map_cons, List.map_nil, hv, hx, hrun]
  have hblk : ∀ k, v.ownBlock = some k → base ≤ k := fun k hk => (OwnT.lt h k hk).1
  refine hk _ _ (hK v' w' ?_ ⟨(Below.refl _ _).grown h3 hbase hblk, fun k hk hne => h3.block k hk (fun e => hne e.symm)⟩)
  unfold OwnT
  rw [List.length_append, List.flatMap_append]
  simpa using h2
/-- a polynomial as a value -/
def PolyV (w : World) (v : Value) (p : Pol) : Prop := ∃ A c, v = .agg #[.bool p.isNone, .slice A (p.getD []).length c] ∧ Tms w (.slice A (p.getD []).length c) (p.getD [])
theorem PolyV.below {w w' : World} {v : Value} {p : Pol} (h : PolyV w v p) (hb : Below w.heap.size w w') : PolyV w' v p := by
  obtain ⟨A, c, hv, hx⟩ := h
  exact ⟨A, c, hv, hx.below hb⟩
theorem PolyV.big (w : World) : PolyV w (.agg #[.bool true, .slice none 0 0]) none := ⟨none, 0, rfl, Tms.nil w⟩
theorem PolyV.zero (w : World) : PolyV w (.agg #[.bool false, .slice none 0 0]) (some []) := ⟨none, 0, rfl, Tms.nil w⟩
theorem PolyV.own {base : Nat} {w : World} {v : Value} {l : List (Int × Int)} (h : OwnT base w v l) : PolyV w (.agg #[.bool false, v]) (some l) := by
  have h1 := h.tms
  obtain ⟨A, c, rfl⟩ := h.form
  exact ⟨A, c, rfl, h1⟩
theorem info_poly : (Tryd.prog.info? 27).map (·.size) = some 2 := by kernel_rfl
end Go.Proofs.YtlbihllmpbhhcaaDoor

namespace Go.Proofs.YtlbihllmpbhhcaaDoor
open Go.RowKit
set_option linter.unusedVariables false

abbrev IsB (B b : Nat) (bs : List Value) (w : World) : Prop := Lib.IsBuilder 75 5 B b bs w
set_option maxHeartbeats 1000000 in
set_option maxRecDepth 100000 in
theorem bld_used (b : Nat) (w : World) (h0 : w.cell? ⟨b, 0, none⟩ = some (.pointer (some ⟨b, 0, none⟩))) :
    Calls Tryd.prog 64 #[.pointer (some ⟨b, 0, none⟩)] w fun e w' => e = .returned (.tuple #[]) ∧ w' = w := by
  obtain ⟨j, hj, _⟩ := Option.map_eq_some_iff.1 Tryd.Builder_Extra_169.sizeBuilder
  go_enter Tryd.func64, Tryd.ntmps64
  go_wp2_with fail
  rw [Lib.run_neq_ptr_same w _ Tryd.underlying72 hj]
  go_wp2_with fail
  go_end0
  exact ⟨rfl, rfl⟩
set_option maxHeartbeats 1000000 in
set_option maxRecDepth 100000 in
theorem bld_fresh (b : Nat) (w : World) (h0 : w.cell? ⟨b, 0, none⟩ = some (.pointer none)) (hsh : w.shape? b = some (75, 2)) (hfz : w.frozen? ⟨b, 0, none⟩ = false) :
    Calls Tryd.prog 64 #[.pointer (some ⟨b, 0, none⟩)] w fun e w' => e = .returned (.tuple #[]) ∧ w' = w.setCell ⟨b, 0, none⟩ (.pointer (some ⟨b, 0, none⟩)) := by
  obtain ⟨j, hj, hjs⟩ := Option.map_eq_some_iff.1 Tryd.Builder_Extra_169.sizeBuilder
  go_enter Tryd.func64, Tryd.ntmps64
  go_wp2_with fail
  rw [Lib.run_to_unsafe w ⟨b, 0, none⟩ Tryd.underlying72 Tryd.underlying129 hj (by rw [hjs]; decide) hsh (Nat.zero_lt_succ 1)]
  simp only [Result.andThen]
  rw [Oper.upon_value]
  go_wp2_with fail
  rw [run_callFunc_extern Tryd.func84 (by kernel_rfl) (by kernel_rfl) (by kernel_rfl) (e := Extern.AbiNoEscape.same) (by kernel_rfl)]
  rw [Lib.run_noEscape]
  simp only [Result.andThen]
  rw [Oper.upon_value]
  go_wp2_with fail
  rw [Lib.run_from_unsafe w ⟨b, 0, none⟩ Tryd.underlying129 Tryd.underlying72 hj hsh Tryd.Builder_Extra_169.liesBuilder]
  simp only [Result.andThen]
  rw [Oper.upon_value]
  go_wp2_with fail
  go_end0
  exact ⟨rfl, rfl⟩
/-- blocks of other types than bytes are kept, but for the builder's own -/
def KeepB (b : Nat) (w w' : World) : Prop := ∀ g t cs, Arr w g t cs → t ≠ 5 → g ≠ b → Arr w' g t cs
theorem KeepB.refl (b : Nat) (w : World) : KeepB b w w := fun _ _ _ h _ _ => h
theorem KeepB.set {b : Nat} {w w' : World} (h : KeepB b w w') (i : Nat) (v : Value) : KeepB b w (w'.setCell ⟨b, i, none⟩ v) := fun g t cs ha ht hg => (Below.heap_setCell w' ⟨b, i, none⟩ v g hg).trans (h g t cs ha ht hg)
theorem KeepB.trans {b : Nat} {w1 w2 w3 : World} (h : KeepB b w1 w2) (k : KeepB b w2 w3) : KeepB b w1 w3 := fun g t cs ha ht hg => k g t cs (h g t cs ha ht hg) ht hg
theorem KeepB.below {b : Nat} {w1 w2 w3 : World} (h : KeepB b w1 w2) (k : Below w2.heap.size w2 w3) : KeepB b w1 w3 := fun g t cs ha ht hg => (h g t cs ha ht hg).below k (h g t cs ha ht hg).lt
theorem bld_apart {base n g : Nat} {w : World} {v : Value} {xs cs : List Value} {t : TypeId} (h : w.ownsRow base 5 1 v n xs) (hg : Arr w g t cs) (hne : t ≠ 5) : v.ownBlock ≠ some g := by
  intro hk
  rcases h.2 with ⟨rfl, h0⟩ | ⟨k, cap, cur, rfl, _, hh, r⟩
  · simp [Value.ownBlock] at hk
  · simp [Value.ownBlock] at hk
    subst hk
    unfold Arr at hg
    rw [hg] at hh
    injection hh with hh
    injection hh with _ h2 _
    exact hne h2
theorem KeepB.grown {b base n : Nat} {w w' w'' : World} {v : Value} {xs : List Value} (h : KeepB b w w') (ho : w'.ownsRow base 5 1 v n xs) (hg : w'.grownBy w'' v.ownBlock) : KeepB b w w'' := fun g t cs ha ht hgb =>
  (hg.block g (h g t cs ha ht hgb).lt (fun e => bld_apart ho (h g t cs ha ht hgb) ht e.symm)).trans (h g t cs ha ht hgb)
theorem bld_check (B b : Nat) (bs : List Value) (w : World) (h : IsB B b bs w) :
    Calls Tryd.prog 64 #[.pointer (some ⟨b, 0, none⟩)] w fun e w' => e = .returned (.tuple #[]) ∧ (Lib.BuilderAt 75 5 B b (.pointer (some ⟨b, 0, none⟩)) bs w' ∧ Below B w w' ∧ KeepB b w w') := by
  rcases h with h | h
  · refine (bld_fresh b w h.cell0 h.shape h.frozen0).mono ?_
    rintro e w' ⟨rfl, rfl⟩
    exact ⟨rfl, h.used _, (Below.refl B w).setCell (p := ⟨b, 0, none⟩) h.1 _, (KeepB.refl b w).set 0 _⟩
  · refine (bld_used b w h.cell0).mono ?_
    rintro e w' ⟨rfl, rfl⟩
    exact ⟨rfl, h, Below.refl B _, KeepB.refl b _⟩
theorem bld_slice {base : Nat} {w : World} {v : Value} {n : Nat} {xs : List Value} (h : w.ownsRow base 5 1 v n xs) : ∃ A n' c, v = .slice A n' c := by
  rcases h.2 with ⟨hv, _⟩ | ⟨g, cap, cur, hv, _⟩
  · exact ⟨_, _, _, hv⟩
  · exact ⟨_, _, _, hv⟩
theorem bld_lt {w : World} {b : Nat} {o : Obj} (h : w.heap[b]? = some o) : b < w.heap.size := by
  rcases Nat.lt_or_ge b w.heap.size with q | q
  · exact q
  · rw [Array.getElem?_eq_none q] at h; cases h
theorem bld_c0 {w : World} {b : Nat} {p v : Value} (h : w.heap[b]? = some (.cells #[p, v] 75 (0, 0))) : w.cell? ⟨b, 0, none⟩ = some p ∧ w.cell? ⟨b, 1, none⟩ = some v ∧ w.frozen? ⟨b, 1, none⟩ = false :=
  ⟨by rw [Lib.cell_of_heap h]; rfl, by rw [Lib.cell_of_heap h]; rfl, Lib.frozen_of_heap h 1⟩
set_option maxHeartbeats 2000000 in
set_option maxRecDepth 100000 in
theorem bld_string (B b : Nat) (bs : List Value) (s : ByteArray) (w : World) (h : IsB B b bs w) (hlen : bs.length + s.size ≤ 100000000000) (hBw : B ≤ w.heap.size) :
    Calls Tryd.prog 36 #[.pointer (some ⟨b, 0, none⟩), .string s] w fun e w' => e = .returned (.tuple #[.int .i64 s.size, .nilIface]) ∧ IsB B b (bs ++ Lib.strCells s) w' ∧ Below B w w' ∧ KeepB b w w' := by
  have HC := Lib.hid (bld_check B b bs w h)
  obtain ⟨i0, hi, hz0, hz1, hz2⟩ := info_parts Tryd.Builder_Extra_169.infoByte
  clear h
  go_enter Tryd.func36, Tryd.ntmps36
  go_wp2_with fail
  refine HC.out.mono ?_
  rintro e w1 ⟨rfl, ⟨hB, v, hbk, hown, hne⟩, hb1, hk1⟩
  obtain ⟨c0, c1, _⟩ := bld_c0 hbk
  have hs1 := hb1.size
  go_wp2_with (at_builtin; refine Lib.wpList_append_own_string _ rfl _ _ 73 9 rfl B 5 i0 Tryd.underlying73 Tryd.underlying9 hi hz0 hz1 hz2 _ _ _ rfl hown s rfl (by unfold maxLen; omega) (by omega) (by omega) ?_)
  intro v' w2 hown' hgrow _
  have hb2 : w2.heap[b]? = some (.cells #[.pointer (some ⟨b, 0, none⟩), v] 75 (0, 0)) := (hgrow.block b (bld_lt hbk) (fun e => hne e.symm)).trans hbk
  obtain ⟨d0, d1, f1⟩ := bld_c0 hb2
  have HK := Lib.hid ((hk1.grown hown hgrow).set 1 v')
  have HO := Lib.hid (And.intro hown' (And.intro hb2 ((hb1.grown hgrow (by omega) (fun k hk => (hown.lt k hk).1)).setCell (p := ⟨b, 1, none⟩) hB v')))
  obtain ⟨A', n', c', rfl⟩ := bld_slice hown'
  clear hown hown' hgrow hbk hb2 c0 c1 hb1 hk1
  go_wp2_with fail
  go_ret2
  exact ⟨rfl, .inr (Lib.BuilderAt.put (T := 75) (e := 5) hB HO.out.2.1 (bs' := bs ++ Lib.strCells s) (by simpa [Lib.strCells_length] using HO.out.1) (by decide)), HO.out.2.2, HK.out⟩
set_option maxHeartbeats 2000000 in
set_option maxRecDepth 100000 in
theorem bld_byte (B b : Nat) (bs : List Value) (x : Int) (w : World) (h : IsB B b bs w) (hlen : bs.length ≤ 100000000000) (hBw : B ≤ w.heap.size) :
    Calls Tryd.prog 35 #[.pointer (some ⟨b, 0, none⟩), .int .u8 x] w fun e w' => e = .returned .nilIface ∧ IsB B b (bs ++ [.int .u8 x]) w' ∧ Below B w w' ∧ KeepB b w w' := by
  have HC := Lib.hid (bld_check B b bs w h)
  obtain ⟨i0, hi, hz0, hz1, hz2⟩ := info_parts Tryd.Builder_Extra_169.infoByte
  clear h
  go_enter Tryd.func35, Tryd.ntmps35
  go_wp2_with fail
  refine HC.out.mono ?_
  rintro e w1 ⟨rfl, ⟨hB, v, hbk, hown, hne⟩, hb1, hk1⟩
  obtain ⟨c0, c1, _⟩ := bld_c0 hbk
  have hs1 := hb1.size
  have hlb := bld_lt hbk
  go_wp2_with (at_builtin; refine wpList_append_own _ rfl _ _ 73 rfl B 5 i0 (.int .u8 0) 1 1 Tryd.underlying73 hi hz0 hz1 hz2 rfl (by decide) _ _ _ rfl (hown.alloc _) ⟨w1.heap.size, 0, none⟩ 1 1 [.int .u8 x] rfl rfl ?c1 ?c2 ?c3 ?c4 ?c5 ?_)
  case c1 =>
    intro j u hj
    match j, hj with
    | 0, hj => simp at hj; subst hj; simp [Addr.add]
  case c2 => intro u hu; simp at hu; subst hu; rfl
  case c3 => unfold maxLen; omega
  case c4 => omega
  case c5 => simp; omega
  intro v' w2 hown' hgrow _
  have hb2 : w2.heap[b]? = some (.cells #[.pointer (some ⟨b, 0, none⟩), v] 75 (0, 0)) := ((hgrow.block b (by simp; omega) (fun e => hne e.symm)).trans (Lib.alloc_old w1 _ b hlb)).trans hbk
  obtain ⟨d0, d1, f1⟩ := bld_c0 hb2
  have HK := Lib.hid (((hk1.below ((Below.refl _ _).alloc (Nat.le_refl _) _)).grown (hown.alloc _) hgrow).set 1 v')
  have HO := Lib.hid (And.intro hown' (And.intro hb2 (((hb1.alloc (by omega) _).grown hgrow (by simp; omega) (fun k hk => (hown.lt k hk).1)).setCell (p := ⟨b, 1, none⟩) hB v')))
  obtain ⟨A', n', c', rfl⟩ := bld_slice hown'
  clear hown hown' hgrow hbk hb2 c0 c1 hb1 hk1
  go_wp2_with fail
  go_ret
  exact ⟨rfl, .inr (Lib.BuilderAt.put (T := 75) (e := 5) hB HO.out.2.1 (bs' := bs ++ [.int .u8 x]) (by simpa using HO.out.1) (by decide)), HO.out.2.2, HK.out⟩
end Go.Proofs.YtlbihllmpbhhcaaDoor
