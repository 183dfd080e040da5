/- append onto a slice of integers that the call itself owns: laws in the words of this seat. -/
/- unravelref01.Face: the cycle of a half-edge under the map of the faces. -/
/- append onto a slice of one-cell values that the call itself owns. -/
/- unravelref01.Faces: the first half-edges of the faces. -/
/- The arcs, as the reference finds them: plain. -/
import Derived.Test.YtcjaloddgilnpaaZBase
import Derived.Maps.AppendAt
import Derived.Deep.AppendLies
import Derived.RegionTactic
import Derived.OwnWalk
import Derived.Deep.RegionLaw
import Derived.Test.YtcjaloddgilnpaaZCyo
namespace Go.Proofs.Ytcjaloddgilnpaa
set_option linter.unusedVariables false
open Go.RowKit

/-- v is a slice of the call's own, from block base on, that holds the integers xs -/
def OwnI (e : TypeId) (base : Nat) (w : World) (v : Value) (xs : List Int) : Prop := w.ownsRow base e 1 v xs.length (xs.map (Value.int .i64))

section
variable {e : TypeId} {base : Nat} {w w' : World} {v : Value} {xs : List Int}
theorem OwnI.nil (e : TypeId) (base : Nat) (w : World) : OwnI e base w (.slice none 0 0) [] := ⟨rfl, .inl ⟨rfl, rfl⟩⟩
theorem OwnI.form (h : OwnI e base w v xs) : ∃ A c, v = .slice A xs.length c := by
  rcases h.2 with ⟨rfl, h0⟩ | ⟨g, cap, cur, rfl, _⟩
  · exact ⟨none, 0, by rw [h0]⟩
  · exact ⟨_, _, rfl⟩
theorem OwnI.block (h : OwnI e base w v xs) : ∀ k, v.ownBlock = some k → base ≤ k := by
  intro k hk
  rcases h.2 with ⟨rfl, h0⟩ | ⟨g, cap, cur, rfl, hg, _⟩
  · simp [Value.ownBlock] at hk
  · simp [Value.ownBlock] at hk; omega
theorem OwnI.ints (h : OwnI e base w v xs) : Ints w v xs := by
  rcases h.2 with ⟨rfl, h0⟩ | ⟨g, cap, cur, rfl, hg, hh, hn, _, hc, ht⟩
  · have : xs = [] := List.eq_nil_of_length_eq_zero h0
    subst this
    exact Ints.nil w
  · refine ⟨_, _, rfl, hn, fun k x hk => ⟨g, 0, rfl, ?_⟩⟩
    rw [cell_of_row w g _ cur e (0, 0) hh, Nat.zero_add]
    have hk' : k < xs.length := (List.getElem?_eq_some_iff.1 hk).1
    have h1 : (cur.toList.take (xs.length * 1))[k]? = some (.int .i64 x) := by rw [ht, List.getElem?_map, hk]; rfl
    rw [List.getElem?_take, if_pos (by omega)] at h1
    simpa using h1
theorem OwnI.below {B : Nat} (h : OwnI e base w v xs) (hb : Below B w w') (hB : w.heap.size ≤ B) : OwnI e base w' v xs := by
  refine ⟨h.1, ?_⟩
  rcases h.2 with h0 | ⟨g, cap, cur, e1, hg, hh, r⟩
  · exact .inl h0
  · refine .inr ⟨g, cap, cur, e1, hg, ?_, r⟩
    have hlt : g < w.heap.size := by
      rcases Nat.lt_or_ge g w.heap.size with hlt | hge
      · exact hlt
      · rw [Array.getElem?_eq_none hge] at hh; cases hh
    rw [hb.block g (by omega)]; exact hh
theorem OwnI.alloc (h : OwnI e base w v xs) (o : Obj) : OwnI e base (w.alloc o) v xs := h.below ((Below.refl _ _).alloc (Nat.le_refl _) o) (Nat.le_refl _)
theorem OwnI.drew (h : OwnI e base w v xs) : OwnI e base w.drew v xs := h
theorem OwnI.drewN (h : OwnI e base w v xs) (n : Nat) : OwnI e base (w.drewN n) v xs := h

/-- the run of append(v, u...) -/
theorem run_appI {P : Program} {t ty : TypeId} {i : TypeInfo} (ht : P.underlying t = some (.slice e)) (hi : P.info? e = some i) (hz : i.zero = some (.int .i64 0)) (hs : i.size = 1) (hby : i.bytes = 8)
    (h : OwnI e base w v xs) {u : Value} {ys : List Int} (hu : Ints w u ys) (hlen : xs.length + ys.length ≤ 1000000000) (hbase : base ≤ w.heap.size) :
    ∃ v' w', (Builtin.append_ #[t, t] ty #[v, u]).run P w = .ok v' w' ∧ OwnI e base w' v' (xs ++ ys) ∧ Below base w w' ∧ (∀ k, k < w.heap.size → v.ownBlock ≠ some k → w'.heap[k]? = w.heap[k]?) := by
  obtain ⟨A, c, rfl, hc, hx⟩ := hu
  cases A with
  | none =>
    have hy : ys = [] := by
      cases ys with
      | nil => rfl
      | cons y ys => obtain ⟨b, o, hA, _⟩ := hx 0 y rfl; cases hA
    subst hy
    refine ⟨v, w, ?_, by simpa using h, Below.refl _ _, fun _ _ _ => rfl⟩
    rcases h.2 with ⟨rfl, h0⟩ | ⟨g, cap, cur, rfl, _, _, hnc, _⟩
    · simp [Builtin.append_, run_underlying ht, sizeOf, typeInfo, hi, Builtin.lenOf, Builtin.firstCells]
    · simp [Builtin.append_, run_underlying ht, sizeOf, typeInfo, hi, Builtin.lenOf, Builtin.firstCells, hnc, storeCells]
  | some ad =>
    have hcells : ∀ j q, (ys.map (Value.int .i64))[j]? = some q → w.cell? (ad.add j) = some q := by
      intro j q hq
      rw [List.getElem?_map] at hq
      cases hy : ys[j]? with
      | none => rw [hy] at hq; cases hq
      | some y =>
        rw [hy] at hq
        injection hq with hq
        obtain ⟨b, o, hA, hcell⟩ := hx j y hy
        injection hA with hA
        subst hA
        rw [← hq]
        have : (⟨b, o, none⟩ : Addr).add j = ⟨b, o + j, none⟩ := by unfold Addr.add; split <;> simp_all
        rw [this]; exact hcell
    obtain ⟨v', w', hrun, h2, h3, _, _⟩ := run_append_own_at (P := P) w base t ty e i (.int .i64 0) 1 8 ht hi hz hs hby rfl (by decide) v xs.length (xs.map (Value.int .i64)) h ad ys.length c (ys.map (Value.int .i64)) (by simp) hcells
      (by intro q hq; obtain ⟨y, _, rfl⟩ := List.mem_map.1 hq; rfl) (by unfold maxLen; omega) (by omega) hbase
    refine ⟨v', w', hrun, ?_, (Below.refl _ _).grown h3 hbase h.block, fun k hk hne => h3.block k hk (fun e => hne e.symm)⟩
    unfold OwnI
    rw [List.length_append, List.map_append]
    exact h2
end

section
variable {P : Program} {w : World} {e : TypeId} {base : Nat} {v : Value} {xs : List Int}
theorem wp_appI {o : Oper} {a : Act} {K : Act → World → Prop} {Q : Exit → Act → World → Prop} (s x : Operand) (t : TypeId) (ho : o.op = .call { callee := .builtin .append, args := #[s, x], argTypes := #[t, t] })
    {i : TypeInfo} (ht : P.underlying t = some (.slice e)) (hi : P.info? e = some i) (hz : i.zero = some (.int .i64 0)) (hs : i.size = 1) (hby : i.bytes = 8)
    (hv : a.eval s = v) (h : OwnI e base w v xs) {u : Value} {ys : List Int} (hx : a.eval x = u) (hu : Ints w u ys) (hlen : xs.length + ys.length ≤ 1000000000) (hbase : base ≤ w.heap.size)
    (hK : ∀ v' w', OwnI e base w' v' (xs ++ ys) → Below base w w' → (∀ k, k < w.heap.size → v.ownBlock ≠ some k → w'.heap[k]? = w.heap[k]?) → K (a.put o.dst v') w') : o.wp P a w K Q := by
  obtain ⟨v', w', hrun, h1, h2, h3⟩ := run_appI (P := P) (ty := o.type) ht hi hz hs hby h hu hlen hbase
  unfold Oper.wp execOp
  simp only [ho, resolve, invoke, builtin, Sem.run_bind, Sem.run_pure, Result.andThen_ok, List.map_toArray, List.map_cons, List.map_nil, hv, hx, hrun]
  exact hK v' w' h1 h2 h3
/-- in a plain region, behind 'at_builtin' -/
theorem wpList_appI {ops : Array Oper} {rest : List Oper} {o : Oper} {a : Act} {Q : Exit → Act → World → Prop} (hgd : o.guard = none) (s x : Operand) (t : TypeId) (ho : o.op = .call { callee := .builtin .append, args := #[s, x], argTypes := #[t, t] })
    {i : TypeInfo} (ht : P.underlying t = some (.slice e)) (hi : P.info? e = some i) (hz : i.zero = some (.int .i64 0)) (hs : i.size = 1) (hby : i.bytes = 8)
    (hv : a.eval s = v) (h : OwnI e base w v xs) {u : Value} {ys : List Int} (hx : a.eval x = u) (hu : Ints w u ys) (hlen : xs.length + ys.length ≤ 1000000000) (hbase : base ≤ w.heap.size)
    (hK : ∀ v' w', OwnI e base w' v' (xs ++ ys) → Below base w w' → (∀ k, k < w.heap.size → v.ownBlock ≠ some k → w'.heap[k]? = w.heap[k]?) → wpList P ops Q rest (a.put o.dst v') w') : wpList P ops Q (o :: rest) a w :=
  wpList_plain hgd fun _ hk => wp_appI s x t ho ht hi hz hs hby hv h hx hu hlen hbase fun v' w' h1 h2 h3 => hk _ _ (hK v' w' h1 h2 h3)
/-- in a region that draws its order -/
theorem step_appI {ops : Array Oper} {o : Oper} {a : Act} {K : Act → World → Prop} {Q : Exit → Act → World → Prop} {E : Prop} (hgd : o.guard = none) (s x : Operand) (t : TypeId) (ho : o.op = .call { callee := .builtin .append, args := #[s, x], argTypes := #[t, t] })
    {i : TypeInfo} (ht : P.underlying t = some (.slice e)) (hi : P.info? e = some i) (hz : i.zero = some (.int .i64 0)) (hs : i.size = 1) (hby : i.bytes = 8)
    (hv : a.eval s = v) (h : OwnI e base w v xs) {u : Value} {ys : List Int} (hx : a.eval x = u) (hu : Ints w u ys) (hlen : xs.length + ys.length ≤ 1000000000) (hbase : base ≤ w.heap.size)
    (hK : ∀ v' w', OwnI e base w' v' (xs ++ ys) → Below base w w' → (∀ k, k < w.heap.size → v.ownBlock ≠ some k → w'.heap[k]? = w.heap[k]?) → K (a.put o.dst v') w') : if Region.wanted o (yielded ops a.tmps) = true then Oper.wp P o a w K Q else E := by
  have hw : Region.wanted o (yielded ops a.tmps) = true := by simp [Region.wanted, hgd]
  rw [if_pos hw]
  exact wp_appI s x t ho ht hi hz hs hby hv h hx hu hlen hbase hK
end

theorem OwnI.emptyAt {w : World} {e : TypeId} {base g : Nat} (hb : base ≤ g) (hg : w.heap[g]? = some (.cells #[] e (0, 0))) : OwnI e base w (.slice (some ⟨g, 0, none⟩) 0 0) [] :=
  ⟨rfl, .inr ⟨g, 0, #[], rfl, hb, hg, Nat.le_refl _, by unfold maxLen; omega, rfl, rfl⟩⟩

/-- a part of a slice reads as the part of the list -/
theorem Ints.sub {w : World} {A : Option Addr} {n c lo hi : Nat} {xs : List Int} (h : Ints w (.slice A n c) xs) (h1 : lo ≤ hi) (h2 : hi ≤ xs.length) (c' : Nat) (hc : hi - lo ≤ c') (A' : Option Addr) (hA : lo < hi → A' = A.map (·.add lo)) :
    Ints w (.slice A' (hi - lo) c') ((xs.take hi).drop lo) := by
  obtain ⟨A0, c0, hv, hcap, hx⟩ := h
  injection hv with e1 e2 e3
  subst e1
  have hlen : ((xs.take hi).drop lo).length = hi - lo := by simp; omega
  refine ⟨A', c', by rw [hlen], by omega, fun k x hk => ?_⟩
  have hk' : k < hi - lo := by have := (List.getElem?_eq_some_iff.1 hk).1; omega
  rw [List.getElem?_drop, List.getElem?_take, if_pos (by omega)] at hk
  obtain ⟨b, o, hA0, hcell⟩ := hx (lo + k) x hk
  subst hA0
  refine ⟨b, o + lo, ?_, by rw [Nat.add_assoc]; exact hcell⟩
  rw [hA (by omega)]
  simp only [Option.map_some, Addr.add]
  split <;> simp_all
end Go.Proofs.Ytcjaloddgilnpaa

namespace Go.Proofs.Ytcjaloddgilnpaa
open Go.RowKit
set_option linter.unusedVariables false

theorem Ints.one (w : World) (t : TypeId) (x : Int) : Ints (w.alloc (.cells #[.int .i64 x] t)) (.slice (some ⟨w.heap.size, 0, none⟩) 1 1) [x] := Ints.of_arr (xs := [x]) (Arr.new w t [.int .i64 x])
theorem OwnI.one (w : World) (e : TypeId) (x : Int) : OwnI e w.heap.size (w.alloc (.cells #[.int .i64 x] e)) (.slice (some ⟨w.heap.size, 0, none⟩) 1 1) [x] :=
  ⟨rfl, .inr ⟨w.heap.size, 1, #[.int .i64 x], rfl, Nat.le_refl _, heap_alloc_new w _, Nat.le_refl _, by unfold maxLen; omega, rfl, rfl⟩⟩

/-- the map of the faces -/
def phi (M : List Int) (h : Nat) : Nat := turnN (mt M h) 3
/-- the first k elements of a cycle -/
def cyL (f : Nat → Nat) (h k : Nat) : List Int := (List.range k).map fun i => ((itr f i h : Nat) : Int)
theorem cyL_length (f : Nat → Nat) (h k : Nat) : (cyL f h k).length = k := by simp [cyL]
theorem cyL_succ (f : Nat → Nat) (h k : Nat) : cyL f h (k + 1) = cyL f h k ++ [((itr f k h : Nat) : Int)] := by simp [cyL, List.range_succ]

set_option maxHeartbeats 2000000 in
set_option maxRecDepth 20000 in
theorem face_ref (vm : Value) (M : List Int) (h : Nat) (w : World) (hM : Ints w vm M) (hn : M.length ≤ 256) (hp : PermF M.length (phi M)) (hm : ∀ h, h < M.length → mt M h < M.length) (h0 : ∀ h (hh : h < M.length), 0 ≤ M[h]) (hh : h < M.length) :
    Calls Try.prog 61 #[vm, .int .i64 h] w fun e w' => ∃ v p, e = .returned v ∧ 0 < p ∧ p ≤ M.length ∧ itr (phi M) p h = h ∧ OwnI 3 w.heap.size w' v (cyL (phi M) h p) ∧ Below w.heap.size w w' := by
  obtain ⟨i0, hi0, hz0, hz1, hz2⟩ := info_parts info_int
  have HP := Lib.hid hp
  have H0 := Lib.hid h0
  have HM := Lib.hid hm
  clear h0 hp hm
  have hM0 := hM
  obtain ⟨A, c, rfl, hc, hx⟩ := hM
  clear hx
  obtain ⟨b, o, rfl, hbl, hcell⟩ := mt_at hM0 hh (H0.out h hh)
  have z0 : (h : Int) < (M.length : Int) := by omega
  have hml := HM.out h hh
  have hst := Lib.hid (show turnN (mt M h) 3 = itr (phi M) 1 h from rfl)
  generalize mt M h = m at *
  have hc4 := (((Below.refl w.heap.size w).alloc (Nat.le_refl _) (.cells #[.int .i64 (h : Int)] 3)).cell (p := ⟨b, o + h, none⟩) hbl).trans hcell
  clear hcell
  go_enter Try.func61, Try.ntmps61
  go_wp2_with (go_at_call 64; refine (turn_ref m _ (by omega)).mono ?_; rintro e w9 ⟨rfl, rfl⟩; rw [hst.out])
  have hW : OwnI 3 w.heap.size (w.alloc (.cells #[.int .i64 (h : Int)] 3)) (.slice (some ⟨w.heap.size, 0, none⟩) 1 1) (cyL (phi M) h 1) ∧ Below w.heap.size w (w.alloc (.cells #[.int .i64 (h : Int)] 3)) :=
    ⟨OwnI.one w _ _, (Below.refl _ _).alloc (Nat.le_refl _) _⟩
  clear hc4 hst hml
  generalize w.alloc (.cells #[.int .i64 (h : Int)] 3) = w4 at hW ⊢
  obtain ⟨a0, hb4⟩ := hW
  go_loopg [5, 6] M.length (fun gk s5 s6 wr => ∃ k : Nat, 0 < k ∧ k ≤ M.length ∧ gk = M.length + 1 - k ∧ s6 = .int .i64 (itr (phi M) k h : Nat) ∧ OwnI 3 w.heap.size wr s5 (cyL (phi M) h k) ∧ Below w.heap.size w wr ∧ Hid (∀ j, 0 < j → j < k → itr (phi M) j h ≠ h))
  case atStart => exact ⟨1, by omega, by omega, by omega, rfl, a0, hb4, Lib.hid fun j h1 h2 => by omega⟩
  case round =>
    clear a0 hb4
    obtain ⟨k, hk0, hk, rfl, rfl, hown, hbel, HN⟩ := hrel
    have hgl := HP.out.itr_lt hh k
    obtain ⟨xs, hxs⟩ : ∃ xs, xs = cyL (phi M) h k := ⟨_, rfl⟩
    have hlk : xs.length = k := by rw [hxs]; exact cyL_length _ _ _
    rw [← hxs] at hown
    have HXS := Lib.hid hxs
    clear hxs
    subst hlk
    obtain ⟨A1, c1, rfl⟩ := hown.form
    by_cases hx : itr (phi M) xs.length h = h
    · have d1 : (((itr (phi M) xs.length h : Nat) : Int) == (h : Int)) = true := by simp [hx]
      have HX := Lib.hid hx
      clear hx
      generalize itr (phi M) xs.length h = g at d1 hgl ⊢
      go_wp2_with fail
      go_ret
      exact ⟨_, xs.length, rfl, hk0, hk, HX.out, by rw [← HXS.out]; exact hown, hbel⟩
    · have HN2 : ∀ j, 0 < j → j < xs.length + 1 → itr (phi M) j h ≠ h := by
        intro j j1 j2
        rcases Nat.lt_or_ge j xs.length with j3 | j3
        · exact HN.out j j1 j3
        · have : j = xs.length := by omega
          rw [this]; exact hx
      have hkk := HP.out.apart hh HN2
      have HN3 := Lib.hid HN2
      have d1 : (((itr (phi M) xs.length h : Nat) : Int) == (h : Int)) = false := by simp; omega
      have d2 : ¬ (((itr (phi M) xs.length h : Nat) : Int) = (h : Int)) := by omega
      have hst := Lib.hid (show turnN (mt M (itr (phi M) xs.length h)) 3 = itr (phi M) (xs.length + 1) h from rfl)
      have HS := Lib.hid (show xs ++ [((itr (phi M) xs.length h : Nat) : Int)] = cyL (phi M) h (xs.length + 1) by rw [cyL_succ, ← HXS.out])
      obtain ⟨b', o', hA, hbl', hcell⟩ := mt_at (hM0.below hbel) hgl (H0.out _ hgl)
      injection hA with hA
      injection hA with hA1 hA2
      subst hA1 hA2
      have hml := HM.out _ hgl
      clear HN2 HN hx HXS
      generalize itr (phi M) xs.length h = g at *
      generalize mt M g = m at *
      have z2 : (g : Int) < (M.length : Int) := by omega
      have z3 : (xs.length : Int) ≤ (M.length : Int) := by omega
      go_wp2_with (first
        | (at_builtin; refine wpList_appI rfl _ _ 22 rfl Try.underlying22 hi0 hz0 hz1 hz2 rfl (hown.alloc _) rfl (Ints.one wr 3 _) (by simp; omega) (Nat.le_trans hbel.size (by simp)) ?_; intro v' w1 hown' hb1 hk1; have hc5 := (((Below.refl wr.heap.size wr).alloc (Nat.le_refl _) (.cells #[.int .i64 (g : Int)] 3)).cell (p := ⟨b, o + g, none⟩) hbl').trans hcell; have hc6 := (hb1.cell (p := ⟨b, o + g, none⟩) hbl).trans hc5; clear hk1 hc5)
        | (go_at_call 64; refine (turn_ref m _ (by omega)).mono ?_; rintro e w9 ⟨rfl, rfl⟩; rw [hst.out]))
      go_roundg (M.length + 1 - (xs.length + 1))
      case measure => omega
      case rel => exact ⟨xs.length + 1, by omega, hkk, rfl, rfl, by rw [← HS.out]; exact hown', (hbel.alloc hbel.size _).trans hb1, HN3⟩
end Go.Proofs.Ytcjaloddgilnpaa

namespace Go.Proofs.Ytcjaloddgilnpaa
set_option linter.unusedVariables false
open Go.RowKit

/-- The value v is a slice that reads as the values vs in the world w. -/
def Vals (w : World) (v : Value) (vs : List Value) : Prop :=
  ∃ A c, v = .slice A vs.length c ∧ vs.length ≤ c ∧ ∀ k x, vs[k]? = some x → ∃ b o, A = some ⟨b, o, none⟩ ∧ w.cell? ⟨b, o + k, none⟩ = some x

section
variable {w w' : World} {v : Value} {vs : List Value}
theorem Vals.keep (h : Vals w v vs) (hk : ∀ b o, b < w.heap.size → w'.cell? ⟨b, o, none⟩ = w.cell? ⟨b, o, none⟩) : Vals w' v vs := by
  obtain ⟨A, c, hv, hc, hx⟩ := h
  refine ⟨A, c, hv, hc, fun k x hkx => ?_⟩
  obtain ⟨b, o, hA, hcell⟩ := hx k x hkx
  exact ⟨b, o, hA, (hk b (o + k) (block_lt_of_cell hcell)).trans hcell⟩
theorem Vals.below (h : Vals w v vs) (hb : Below w.heap.size w w') : Vals w' v vs := h.keep fun _ _ hlt => hb.cell hlt
theorem Vals.alloc (h : Vals w v vs) (o : Obj) : Vals (w.alloc o) v vs := h.below ((Below.refl _ _).alloc (Nat.le_refl _) o)
theorem Vals.at_ {A : Option Addr} {n c k : Nat} (h : Vals w (.slice A n c) vs) (hk : k < vs.length) :
    ∃ b o, A = some ⟨b, o, none⟩ ∧ b < w.heap.size ∧ w.cell? ⟨b, o + k, none⟩ = some vs[k] := by
  obtain ⟨A', c', hv, hc, hx⟩ := h
  injection hv with h1 h2 h3
  subst h1
  obtain ⟨b, o, hA, hcell⟩ := hx k vs[k] (List.getElem?_eq_getElem hk)
  exact ⟨b, o, hA, block_lt_of_cell hcell, hcell⟩
theorem Vals.of_arr {b : Nat} {t : TypeId} (h : Arr w b t vs) : Vals w (.slice (some ⟨b, 0, none⟩) vs.length vs.length) vs := by
  refine ⟨_, _, rfl, Nat.le_refl _, fun k x hk => ⟨b, 0, rfl, ?_⟩⟩
  rw [Nat.zero_add, h.cell]; exact hk
theorem Vals.nil (w : World) : Vals w (.slice none 0 0) [] := ⟨none, 0, rfl, Nat.le_refl _, fun k x h => by simp at h⟩
theorem Vals.one (w : World) (t : TypeId) (x : Value) : Vals (w.alloc (.cells #[x] t)) (.slice (some ⟨w.heap.size, 0, none⟩) 1 1) [x] := Vals.of_arr (vs := [x]) (Arr.new w t [x])
end

/-- v is a slice of the call's own, from block base on, that holds the values vs -/
def OwnV (e : TypeId) (base : Nat) (w : World) (v : Value) (vs : List Value) : Prop := w.ownsRow base e 1 v vs.length vs

section
variable {e : TypeId} {base : Nat} {w w' : World} {v : Value} {vs : List Value}
theorem OwnV.nil (e : TypeId) (base : Nat) (w : World) : OwnV e base w (.slice none 0 0) [] := ⟨rfl, .inl ⟨rfl, rfl⟩⟩
theorem OwnV.form (h : OwnV e base w v vs) : ∃ A c, v = .slice A vs.length c := by
  rcases h.2 with ⟨rfl, h0⟩ | ⟨g, cap, cur, rfl, _⟩
  · exact ⟨none, 0, by rw [h0]⟩
  · exact ⟨_, _, rfl⟩
theorem OwnV.block (h : OwnV e base w v vs) : ∀ k, v.ownBlock = some k → base ≤ k := by
  intro k hk
  rcases h.2 with ⟨rfl, h0⟩ | ⟨g, cap, cur, rfl, hg, _⟩
  · simp [Value.ownBlock] at hk
  · simp [Value.ownBlock] at hk; omega
theorem OwnV.vals (h : OwnV e base w v vs) : Vals w v vs := by
  rcases h.2 with ⟨rfl, h0⟩ | ⟨g, cap, cur, rfl, hg, hh, hn, _, hc, ht⟩
  · have : vs = [] := List.eq_nil_of_length_eq_zero h0
    subst this
    exact Vals.nil w
  · refine ⟨_, _, rfl, hn, fun k x hk => ⟨g, 0, rfl, ?_⟩⟩
    rw [cell_of_row w g _ cur e (0, 0) hh, Nat.zero_add]
    have hk' : k < vs.length := (List.getElem?_eq_some_iff.1 hk).1
    have h1 : (cur.toList.take (vs.length * 1))[k]? = some x := by rw [ht, hk]
    rw [List.getElem?_take, if_pos (by omega)] at h1
    simpa using h1
theorem OwnV.lt (h : OwnV e base w v vs) : ∀ k, v.ownBlock = some k → k < w.heap.size := by
  intro k hk
  rcases h.2 with ⟨rfl, h0⟩ | ⟨g, cap, cur, rfl, hg, hh, _⟩
  · simp [Value.ownBlock] at hk
  · simp [Value.ownBlock] at hk
    subst hk
    rcases Nat.lt_or_ge g w.heap.size with hlt | hge
    · exact hlt
    · rw [Array.getElem?_eq_none hge] at hh; cases hh
theorem OwnV.below {B : Nat} (h : OwnV e base w v vs) (hb : Below B w w') (hB : w.heap.size ≤ B) : OwnV e base w' v vs := by
  have hl := h.lt
  refine ⟨h.1, ?_⟩
  rcases h.2 with h0 | ⟨g, cap, cur, e1, hg, hh, r⟩
  · exact .inl h0
  · refine .inr ⟨g, cap, cur, e1, hg, ?_, r⟩
    have hlt : g < w.heap.size := hl g (by rw [e1]; simp [Value.ownBlock])
    rw [hb.block g (by omega)]; exact hh
theorem OwnV.alloc (h : OwnV e base w v vs) (o : Obj) : OwnV e base (w.alloc o) v vs := h.below ((Below.refl _ _).alloc (Nat.le_refl _) o) (Nat.le_refl _)
theorem OwnV.drew (h : OwnV e base w v vs) : OwnV e base w.drew v vs := h
theorem OwnV.drewN (h : OwnV e base w v vs) (n : Nat) : OwnV e base (w.drewN n) v vs := h

/-- the run of append(v, u...) -/
theorem run_appV {P : Program} {t ty : TypeId} {i : TypeInfo} {z : Value} (ht : P.underlying t = some (.slice e)) (hi : P.info? e = some i) (hz : i.zero = some z) (hs : i.size = 1) (hby : i.bytes ≤ 24) (hzc : z.cells.size = 1)
    (h : OwnV e base w v vs) {u : Value} {ys : List Value} (hu : Vals w u ys) (h1 : ∀ q ∈ ys, q.oneCell' = true) (hlen : vs.length + ys.length ≤ 1000000) (hbase : base ≤ w.heap.size) :
    ∃ v' w', (Builtin.append_ #[t, t] ty #[v, u]).run P w = .ok v' w' ∧ OwnV e base w' v' (vs ++ ys) ∧ Below base w w' ∧ (∀ k, k < w.heap.size → v.ownBlock ≠ some k → w'.heap[k]? = w.heap[k]?) ∧
      (v'.ownBlock = v.ownBlock ∨ v'.ownBlock = some w.heap.size) := by
  obtain ⟨A, c, rfl, hc, hx⟩ := hu
  cases A with
  | none =>
    have hy : ys = [] := by
      cases ys with
      | nil => rfl
      | cons y ys => obtain ⟨b, o, hA, _⟩ := hx 0 y rfl; cases hA
    subst hy
    refine ⟨v, w, ?_, by simpa using h, Below.refl _ _, fun _ _ _ => rfl, .inl rfl⟩
    rcases h.2 with ⟨rfl, h0⟩ | ⟨g, cap, cur, rfl, _, _, hnc, _⟩
    · simp [Builtin.append_, run_underlying ht, sizeOf, typeInfo, hi, Builtin.lenOf, Builtin.firstCells]
    · simp [Builtin.append_, run_underlying ht, sizeOf, typeInfo, hi, Builtin.lenOf, Builtin.firstCells, hnc, storeCells]
  | some ad =>
    have hcells : ∀ j q, ys[j]? = some q → w.cell? (ad.add j) = some q := by
      intro j q hq
      obtain ⟨b, o, hA, hcell⟩ := hx j q hq
      injection hA with hA
      subst hA
      have : (⟨b, o, none⟩ : Addr).add j = ⟨b, o + j, none⟩ := by unfold Addr.add; split <;> simp_all
      rw [this]; exact hcell
    have hbb : (vs.length + ys.length) * i.bytes ≤ 140737488355328 := by
      have := Nat.mul_le_mul hlen hby
      omega
    obtain ⟨v', w', hrun, h2, h3, _, h5⟩ := run_append_own_at (P := P) w base t ty e i z 1 i.bytes ht hi hz hs rfl hzc (by decide) v vs.length vs h ad ys.length c ys (by simp) hcells
      h1 (by unfold maxLen; omega) hbb hbase
    refine ⟨v', w', hrun, ?_, (Below.refl _ _).grown h3 hbase h.block, fun k hk hne => h3.block k hk (fun e => hne e.symm), h5⟩
    unfold OwnV
    rw [List.length_append]
    exact h2
end

section
variable {P : Program} {w : World} {e : TypeId} {base : Nat} {v : Value} {vs : List Value}
theorem wp_appV {o : Oper} {a : Act} {K : Act → World → Prop} {Q : Exit → Act → World → Prop} (s x : Operand) (t : TypeId) (ho : o.op = .call { callee := .builtin .append, args := #[s, x], argTypes := #[t, t] })
    {i : TypeInfo} {z : Value} (ht : P.underlying t = some (.slice e)) (hi : P.info? e = some i) (hz : i.zero = some z) (hs : i.size = 1) (hby : i.bytes ≤ 24) (hzc : z.cells.size = 1)
    (hv : a.eval s = v) (h : OwnV e base w v vs) {u : Value} {ys : List Value} (hx : a.eval x = u) (hu : Vals w u ys) (h1 : ∀ q ∈ ys, q.oneCell' = true) (hlen : vs.length + ys.length ≤ 1000000) (hbase : base ≤ w.heap.size)
    (hK : ∀ v' w', OwnV e base w' v' (vs ++ ys) → Below base w w' → (∀ k, k < w.heap.size → v.ownBlock ≠ some k → w'.heap[k]? = w.heap[k]?) → (v'.ownBlock = v.ownBlock ∨ v'.ownBlock = some w.heap.size) → K (a.put o.dst v') w') : o.wp P a w K Q := by
  obtain ⟨v', w', hrun, h1, h2, h3, h4⟩ := run_appV (P := P) (ty := o.type) ht hi hz hs hby hzc h hu h1 hlen hbase
  unfold Oper.wp execOp
  simp only [ho, resolve, invoke, builtin, Sem.run_bind, Sem.run_pure, Result.andThen_ok, List.map_toArray, List.map_cons, List.map_nil, hv, hx, hrun]
  exact hK v' w' h1 h2 h3 h4
/-- in a plain region, behind 'at_builtin' -/
theorem wpList_appV {ops : Array Oper} {rest : List Oper} {o : Oper} {a : Act} {Q : Exit → Act → World → Prop} (hgd : o.guard = none) (s x : Operand) (t : TypeId) (ho : o.op = .call { callee := .builtin .append, args := #[s, x], argTypes := #[t, t] })
    {i : TypeInfo} {z : Value} (ht : P.underlying t = some (.slice e)) (hi : P.info? e = some i) (hz : i.zero = some z) (hs : i.size = 1) (hby : i.bytes ≤ 24) (hzc : z.cells.size = 1)
    (hv : a.eval s = v) (h : OwnV e base w v vs) {u : Value} {ys : List Value} (hx : a.eval x = u) (hu : Vals w u ys) (h1 : ∀ q ∈ ys, q.oneCell' = true) (hlen : vs.length + ys.length ≤ 1000000) (hbase : base ≤ w.heap.size)
    (hK : ∀ v' w', OwnV e base w' v' (vs ++ ys) → Below base w w' → (∀ k, k < w.heap.size → v.ownBlock ≠ some k → w'.heap[k]? = w.heap[k]?) → (v'.ownBlock = v.ownBlock ∨ v'.ownBlock = some w.heap.size) → wpList P ops Q rest (a.put o.dst v') w') : wpList P ops Q (o :: rest) a w :=
  wpList_plain hgd fun _ hk => wp_appV s x t ho ht hi hz hs hby hzc hv h hx hu h1 hlen hbase fun v' w' h1 h2 h3 h4 => hk _ _ (hK v' w' h1 h2 h3 h4)
end
end Go.Proofs.Ytcjaloddgilnpaa

namespace Go.Proofs.Ytcjaloddgilnpaa
open Go.RowKit
set_option linter.unusedVariables false

/-- is h the least of its cycle? -/
def isH (f : Nat → Nat) (n h : Nat) : Bool := (List.range h).all fun j => !rB f n j h
def hdU (f : Nat → Nat) (n k : Nat) : List Nat := (List.range k).filter (isH f n)
theorem hdU_succ (f : Nat → Nat) (n k : Nat) : hdU f n (k + 1) = hdU f n k ++ (if isH f n k then [k] else []) := by
  unfold hdU; rw [List.range_succ, List.filter_append]; simp [List.filter_cons]
theorem hdU_len (f : Nat → Nat) (n k : Nat) : (hdU f n k).length ≤ k := by
  have := List.length_filter_le (isH f n) (List.range k); simpa [hdU] using this
/-- the first i elements are at least h -/
def lsB (h : Nat) (xs : List Int) (i : Nat) : Bool := (xs.take i).all fun x => decide ((h : Int) ≤ x)
theorem lsB_succ (h : Nat) (xs : List Int) (i : Nat) (hi : i < xs.length) : lsB h xs (i + 1) = (lsB h xs i && decide ((h : Int) ≤ xs[i])) := by
  unfold lsB; rw [List.take_add_one, List.getElem?_eq_getElem hi]; simp only [List.all_append, Option.toList_some, List.all_cons, List.all_nil, Bool.and_true]
theorem lsB_isH {n : Nat} {f : Nat → Nat} (hf : PermF n f) {h p : Nat} (hh : h < n) (hp : 0 < p) (he : itr f p h = h) : lsB h (cyL f h p) p = isH f n h := by
  rw [Bool.eq_iff_iff]
  unfold lsB isH
  have hl : (cyL f h p).take p = cyL f h p := List.take_of_length_le (by rw [cyL_length]; exact Nat.le_refl _)
  rw [hl, cyL]
  simp only [List.all_eq_true, List.mem_map, List.mem_range, decide_eq_true_eq, forall_exists_index, and_imp, Bool.not_eq_true', ]
  constructor
  · intro H j hj
    rw [Bool.eq_false_iff]
    intro hr
    have hr' := (rB_iff hf (by omega)).1 hr
    have hs := hf.symm (by omega) hr'
    obtain ⟨k, hk⟩ := hs
    -- k modulo p
    have key : ∀ k, itr f k h = itr f (k % p) h := by
      intro k
      induction k using Nat.strongRecOn with
      | ind k ih =>
        rcases Nat.lt_or_ge k p with q | q
        · rw [Nat.mod_eq_of_lt q]
        · have e1 : k = (k - p) + p := by omega
          have e2 := ih (k - p) (by omega)
          have e3 : itr f k h = itr f (k - p) h := by
            have e4 := itr_add f (k - p) p h
            rw [he, ← e1] at e4
            exact e4
          have e5 : k % p = (k - p) % p := Nat.mod_eq_sub_mod q
          rw [e3, e2, e5]
    have := H ((itr f (k % p) h : Nat) : Int) (k % p) (Nat.mod_lt _ hp) rfl
    rw [← key, hk] at this
    omega
  · intro H x i hi hx
    subst hx
    rcases Nat.lt_or_ge (itr f i h) h with q | q
    · exfalso
      have := H _ q
      have h2 : rB f n (itr f i h) h = true := (rB_iff hf (hf.itr_lt hh i)).2 (hf.symm hh ⟨i, rfl⟩)
      rw [h2] at this
      cases this
    · omega

/-- the slices fs begin with the numbers hs, none of them in block g -/
def Firsts (w : World) (g : Option Nat) (fs : List Value) (hs : List Nat) : Prop :=
  fs.length = hs.length ∧ ∀ (i : Nat) (f : Value) (h : Nat), fs[i]? = some f → hs[i]? = some h → ∃ b l c, f = .slice (some ⟨b, 0, none⟩) l c ∧ 0 < l ∧ w.cell? ⟨b, 0, none⟩ = some (.int .i64 (h : Nat)) ∧ g ≠ some b
theorem Firsts.nil (w : World) : Firsts w none [] [] := ⟨rfl, fun i f h hf => by simp at hf⟩
theorem Firsts.keep {w w' : World} {g g' : Option Nat} {fs : List Value} {hs : List Nat} (h : Firsts w g fs hs) (hk : ∀ k, k < w.heap.size → g ≠ some k → w'.heap[k]? = w.heap[k]?) (hg : ∀ k, k < w.heap.size → g ≠ some k → g' ≠ some k) : Firsts w' g' fs hs := by
  refine ⟨h.1, fun i f h' h1 h2 => ?_⟩
  obtain ⟨b, l, c, e, hl, hc, hne⟩ := h.2 i f h' h1 h2
  have hlt := block_lt_of_cell hc
  refine ⟨b, l, c, e, hl, ?_, hg b hlt hne⟩
  rw [← hc]; unfold World.cell?; simp only; rw [hk b hlt hne]
theorem Firsts.snoc {w : World} {g : Option Nat} {fs : List Value} {hs : List Nat} (h : Firsts w g fs hs) {b l c k : Nat} (hl : 0 < l) (hc : w.cell? ⟨b, 0, none⟩ = some (.int .i64 (k : Nat))) (hne : g ≠ some b) :
    Firsts w g (fs ++ [Value.slice (some ⟨b, 0, none⟩) l c]) (hs ++ [k]) := by
  refine ⟨by simp [h.1], fun i f h' h1 h2 => ?_⟩
  rcases Nat.lt_or_ge i fs.length with q | q
  · rw [List.getElem?_append_left q] at h1
    rw [List.getElem?_append_left (by rw [← h.1]; exact q)] at h2
    exact h.2 i f h' h1 h2
  · rw [List.getElem?_append_right q] at h1
    rw [List.getElem?_append_right (by rw [← h.1]; exact q)] at h2
    have hi : i - fs.length = 0 := by
      have := (List.getElem?_eq_some_iff.1 h1).1; simp at this; omega
    rw [hi] at h1
    rw [← h.1, hi] at h2
    simp at h1 h2
    subst h1 h2
    exact ⟨b, l, c, rfl, hl, hc, hne⟩
theorem OwnI.form1 {e : TypeId} {base : Nat} {w : World} {v : Value} {xs : List Int} (h : OwnI e base w v xs) (hx : 0 < xs.length) : ∃ g c, v = .slice (some ⟨g, 0, none⟩) xs.length c ∧ base ≤ g ∧ g < w.heap.size := by
  have hi := h.ints
  rcases h.2 with ⟨rfl, h0⟩ | ⟨g, cap, cur, rfl, hg, _⟩
  · omega
  · obtain ⟨b, o, hA, hl, _⟩ := hi.at_ hx
    injection hA with hA
    injection hA with hA
    subst hA
    exact ⟨g, cap, rfl, hg, hl⟩
theorem info_ints : (Try.prog.info? 22).map (fun i => (i.zero, i.size, i.bytes)) = some (some (Value.slice none 0 0), 1, 24) := by kernel_rfl

set_option maxHeartbeats 2000000 in
set_option maxRecDepth 20000 in
theorem faces_ref (vm : Value) (M : List Int) (w : World) (hM : Ints w vm M) (hn : M.length ≤ 256) (hp : PermF M.length (phi M)) (hm : ∀ h, h < M.length → mt M h < M.length) (h0 : ∀ h (hh : h < M.length), 0 ≤ M[h]) :
    Calls Try.prog 36 #[vm] w fun e w' => ∃ v fs, e = .returned v ∧ Vals w' v fs ∧ Firsts w' v.ownBlock fs (hdU (phi M) M.length M.length) ∧ Below w.heap.size w w' := by
  obtain ⟨i0, hi0, hz0, hz1, hz2⟩ := info_parts info_ints
  have HP := Lib.hid hp
  have H0 := Lib.hid h0
  have HM := Lib.hid hm
  clear h0 hp hm
  have hM0 := hM
  obtain ⟨A, c, rfl, hc, hx⟩ := hM
  clear hx
  go_enter Try.func36, Try.ntmps36
  go_wp2_with fail
  go_loopg [3, 4, 5, 6, 7] M.length (fun gk s3 s4 s5 s6 s7 wr => ∃ (h : Nat) (fs : List Value), h ≤ M.length ∧ gk = M.length - h ∧ s4 = .int .i64 (h : Int) ∧ OwnV 22 w.heap.size wr s3 fs ∧ Firsts wr s3.ownBlock fs (hdU (phi M) M.length h) ∧ Below w.heap.size w wr)
  case atStart => exact ⟨0, [], Nat.zero_le _, rfl, rfl, OwnV.nil _ _ _, Firsts.nil _, Below.refl _ _⟩
  case round =>
    obtain ⟨h, fs, hh, rfl, rfl, hown, hfi, hbel⟩ := hrel
    by_cases hlt : h < M.length
    · have z1 : (h : Int) < (M.length : Int) := by omega
      obtain ⟨A1, c1, rfl⟩ := hown.form
      go_wp2_with (go_at_call 61; refine (face_ref _ M h _ (hM0.below hbel) hn HP.out HM.out H0.out hlt).mono ?_; rintro e w1 ⟨v, p, rfl, hp0, hp1, hp2, hf1, hb1⟩; obtain ⟨g, c2, rfl, hg1, hg2⟩ := hf1.form1 (by rw [cyL_length]; exact hp0))
      have HLS := Lib.hid (lsB_isH HP.out hlt hp0 hp2)
      have HSU := Lib.hid (hdU_succ (phi M) M.length h)
      have hhd : fs.length ≤ h := by rw [hfi.1]; exact hdU_len _ _ _
      obtain ⟨xs, hxs⟩ : ∃ xs, xs = cyL (phi M) h p := ⟨_, rfl⟩
      have hlp : xs.length = p := by rw [hxs]; exact cyL_length _ _ _
      have hx0 : xs[0]? = some ((h : Nat) : Int) := by
        rw [hxs, cyL, List.getElem?_map, List.getElem?_range hp0]; rfl
      rw [← hxs] at hf1 HLS ⊢
      clear hxs
      subst hlp
      generalize isH (phi M) M.length h = B at *
      have hfi1 : Firsts w1 (Value.slice A1 fs.length c1).ownBlock fs (hdU (phi M) M.length h) := hfi.keep (fun k hk _ => hb1.block k hk) (fun _ _ hh => hh)
      have hown1 := hown.below hb1 (Nat.le_refl _)
      have hbel1 := hbel.trans (hb1.mono hbel.size)
      have hin := hf1.ints
      have hne : (Value.slice A1 fs.length c1).ownBlock ≠ some g := by
        intro e; have := hown.lt g e; omega
      have HNE := Lib.hid hne
      have HFI := Lib.hid hfi1
      clear hfi hown hbel hp2 hb1 hf1 hne hfi1
      go_loopg [6, 7] xs.length (fun gk s6 s7 wi => ∃ i : Nat, i ≤ xs.length ∧ gk = xs.length - i ∧ s7 = .int .i64 (i : Int) ∧ s6 = .bool (lsB h xs i) ∧ OwnV 22 w.heap.size wi (Value.slice A1 fs.length c1) fs ∧ Below w.heap.size w wi ∧ Ints wi (Value.slice (some ⟨g, 0, none⟩) xs.length c2) xs ∧ Hid (Firsts wi (Value.slice A1 fs.length c1).ownBlock fs (hdU (phi M) M.length h)))
      case atStart => exact ⟨0, Nat.zero_le _, rfl, rfl, rfl, hown1, hbel1, hin, HFI⟩
      case round =>
        clear hown1 hbel1 hin HFI hg2
        obtain ⟨i, hi, rfl, rfl, rfl, hown1, hbel1, hin, HFI⟩ := hrel
        by_cases hil : i < xs.length
        · have z2 : (i : Int) < (xs.length : Int) := by omega
          obtain ⟨b', o', hA, hbl', hcell⟩ := hin.at_ hil
          injection hA with hA
          injection hA with hA1 hA2
          subst hA1 hA2
          rw [Nat.zero_add] at hcell
          have HLN := Lib.hid (lsB_succ h xs i hil)
          generalize lsB h xs i = b1 at *
          generalize xs[i] = x at *
          cases b1
          · go_wp2_with fail
            go_roundg (xs.length - (i + 1))
            case measure => omega
            case rel => exact ⟨i + 1, by omega, rfl, by go_num, by rw [HLN.out]; rfl, hown1, hbel1, hin, HFI⟩
          · go_wp2_with fail
            go_roundg (xs.length - (i + 1))
            case measure => omega
            case rel => exact ⟨i + 1, by omega, rfl, by go_num, by rw [HLN.out]; simp, hown1, hbel1, hin, HFI⟩
        · have z2 : ¬ ((i : Int) < (xs.length : Int)) := by omega
          have hie : i = xs.length := by omega
          rw [hie, HLS.out]
          clear hie
          cases B
          · go_wp2_with fail
            go_roundg (M.length - (h + 1))
            case measure => omega
            case rel => exact ⟨h + 1, fs, by omega, rfl, by go_num, hown1, by rw [HSU.out]; simpa using HFI.out, hbel1⟩
          · go_wp2_with (at_builtin; refine wpList_appV rfl _ _ 26 rfl Try.underlying26 hi0 hz0 hz1 (by omega) rfl rfl (hown1.alloc _) rfl (Vals.one _ _ _) (by simp [Value.oneCell']) (by simp; omega) (Nat.le_trans hbel1.size (by simp)) ?_; intro v' w2 hown2 hb2 hk2 hv2)
            go_roundg (M.length - (h + 1))
            case measure => omega
            case rel =>
              refine ⟨h + 1, _, by omega, rfl, by go_num, hown2, ?_, (hbel1.alloc hbel1.size _).trans hb2⟩
              have hc0 : wr.cell? ⟨g, 0, none⟩ = some (.int .i64 ((h : Nat) : Int)) := by
                obtain ⟨b', o', hA, hbl', hcell⟩ := hin.at_ hp0
                injection hA with hA
                injection hA with hA1 hA2
                subst hA1 hA2
                rw [List.getElem?_eq_getElem hp0] at hx0
                injection hx0 with hx0
                rw [hx0] at hcell; exact hcell
              have h1 := HFI.out.snoc (c := c2) hp0 hc0 HNE.out
              have h2 := h1.keep (w' := wr.alloc (.cells #[Value.slice (some ⟨g, 0, none⟩) xs.length c2] 22)) (fun k hk _ => Below.heap_alloc _ _ k hk) (fun _ _ hh => hh)
              rw [HSU.out, if_pos trivial]
              refine h2.keep hk2 ?_
              intro k hk hne e
              rcases hv2 with hv2 | hv2
              · rw [hv2] at e; exact hne e
              · rw [hv2] at e; injection e with e; omega
    · have z1 : ¬ ((h : Int) < (M.length : Int)) := by omega
      have hkn : h = M.length := by omega
      have HF := Lib.hid (show Firsts wr u3.ownBlock fs (hdU (phi M) M.length M.length) by rw [hkn] at hfi; exact hfi)
      clear hfi hkn
      go_wp2_with fail
      go_ret
      exact ⟨_, rfl, fs, hown.vals, HF.out, hbel⟩
end Go.Proofs.Ytcjaloddgilnpaa

namespace Go.Proofs.Ytcjaloddgilnpaa
set_option linter.unusedVariables false

/-- two slots further -/
def opp (h : Nat) : Nat := h / 4 * 4 + (h % 4 + 2) % 4
/-- the least label that a half-edge sees -/
def lowA (M : List Int) (l : List Nat) (h : Nat) : Nat :=
  if h % 2 = 1 then min (min (gn l h) (gn l (mt M h))) (gn l (opp h)) else min (gn l h) (gn l (mt M h))
def opA (M : List Int) (l : List Nat) (h : Nat) : List Nat := l.set h (lowA M l h)
def passA (M : List Int) (l : List Nat) : Nat → List Nat
  | 0 => l
  | k + 1 => opA M (passA M l k) k
def labA (M : List Int) (n : Nat) : Nat → List Nat
  | 0 => List.range n
  | t + 1 => passA M (labA M n t) n
theorem passA_length (M : List Int) (l : List Nat) : ∀ k, (passA M l k).length = l.length
  | 0 => rfl
  | k + 1 => by rw [passA, opA, List.length_set, passA_length M l k]
theorem labA_length (M : List Int) (n : Nat) : ∀ t, (labA M n t).length = n
  | 0 => by simp [labA]
  | t + 1 => by rw [labA, passA_length, labA_length M n t]
/-- the mates of n half-edges lie in range, and n is divided by 4 -/
def Rh (M : List Int) (n : Nat) : Prop := n % 4 = 0 ∧ ∀ h, h < n → mt M h < n
/-- the half-edge b sees a -/
def Sees (M : List Int) (n a b : Nat) : Prop := b < n ∧ (a = mt M b ∨ (b % 2 = 1 ∧ a = opp b))
section
variable {M : List Int} {n : Nat} (hR : Rh M n)
include hR
theorem opp_lt {h : Nat} (hh : h < n) : opp h < n := by have := hR.1; unfold opp; omega
theorem Sees.lt {a b : Nat} (h : Sees M n a b) : a < n ∧ b < n := by
  obtain ⟨h1, h2⟩ := h
  rcases h2 with rfl | ⟨_, rfl⟩
  · exact ⟨hR.2 b h1, h1⟩
  · exact ⟨opp_lt hR h1, h1⟩
omit hR in
theorem gn_opA {l : List Nat} (hl : l.length = n) {h : Nat} (hh : h < n) (c : Nat) : gn (opA M l h) c = if c = h then lowA M l h else gn l c := gn_set _ _ _ _ (by omega)
omit hR in
theorem opA_le {l : List Nat} (hl : l.length = n) {h : Nat} (hh : h < n) (c : Nat) : gn (opA M l h) c ≤ gn l c := by
  rw [gn_opA hl hh]
  split
  · subst c; unfold lowA; split <;> omega
  · exact Nat.le_refl _
omit hR in
theorem passA_le {l : List Nat} (hl : l.length = n) (c : Nat) : ∀ (k j : Nat), j ≤ k → k ≤ n → gn (passA M l k) c ≤ gn (passA M l j) c := by
  intro k
  induction k with
  | zero => intro j h1 _; have : j = 0 := by omega
            subst this; exact Nat.le_refl _
  | succ k ih =>
    intro j h1 h2
    rcases Nat.lt_or_ge j (k + 1) with h | h
    · refine Nat.le_trans ?_ (ih j (by omega) (by omega))
      exact opA_le (n := n) (M := M) (l := passA M l k) ((passA_length M l k).trans hl) (by omega) c
    · have : j = k + 1 := by omega
      subst this; exact Nat.le_refl _
omit hR in
theorem passA_edge {l : List Nat} (hl : l.length = n) {a b : Nat} (h : Sees M n a b) : gn (passA M l n) b ≤ gn l a := by
  obtain ⟨h1, h2⟩ := h
  have e1 := passA_le (M := M) hl b n (b + 1) (by omega) (Nat.le_refl _)
  have e2 := passA_le (M := M) hl a b 0 (by omega) (by omega)
  have e3 := gn_opA (M := M) (l := passA M l b) (by rw [passA_length]; exact hl) h1 b
  have e4 : gn (passA M l 0) a = gn l a := rfl
  rw [passA, e3, if_pos rfl] at e1
  rw [e4] at e2
  refine Nat.le_trans e1 (Nat.le_trans ?_ e2)
  unfold lowA
  rcases h2 with rfl | ⟨h3, rfl⟩
  · split <;> omega
  · rw [if_pos h3]; omega
theorem opA_conn {l : List Nat} (hl : l.length = n) (hc : ∀ c, c < n → Conn (Sees M n) (gn l c) c) {h : Nat} (hh : h < n) (c : Nat) (hcn : c < n) : Conn (Sees M n) (gn (opA M l h) c) c := by
  rw [gn_opA hl hh]
  split
  · subst c
    have c1 := hc h hh
    have c2 := (hc (mt M h) (hR.2 h hh)).step ⟨hh, Or.inl rfl⟩
    have mn : ∀ x y, Conn (Sees M n) x h → Conn (Sees M n) y h → Conn (Sees M n) (min x y) h := by
      intro x y hx hy
      rcases Nat.le_total x y with q | q
      · rw [Nat.min_eq_left q]; exact hx
      · rw [Nat.min_eq_right q]; exact hy
    unfold lowA
    split
    · rename_i ho
      exact mn _ _ (mn _ _ c1 c2) ((hc (opp h) (opp_lt hR hh)).step ⟨hh, Or.inr ⟨ho, rfl⟩⟩)
    · exact mn _ _ c1 c2
  · exact hc c hcn
theorem passA_conn {l : List Nat} (hl : l.length = n) (hc : ∀ c, c < n → Conn (Sees M n) (gn l c) c) : ∀ k, k ≤ n → ∀ c, c < n → Conn (Sees M n) (gn (passA M l k) c) c := by
  intro k
  induction k with
  | zero => intro _; exact hc
  | succ k ih =>
    intro h c hcn
    exact opA_conn hR (by rw [passA_length]; exact hl) (ih (by omega)) (by omega) c hcn
theorem labA_conn : ∀ t c, c < n → Conn (Sees M n) (gn (labA M n t) c) c := by
  intro t
  induction t with
  | zero => intro c hc; rw [labA, gn, List.getElem?_range hc]; exact .refl _
  | succ t ih => exact passA_conn hR (labA_length M n t) ih _ (Nat.le_refl _)
/-- the label is the least of the arc -/
theorem labA_least {c m : Nat} (hm : m < n) (h : Conn (Sees M n) m c) : gn (labA M n n) c ≤ m := by
  refine passes (E := Sees M n) (n := n) (fun a b e => e.lt hR) (fun t c => gn (labA M n t) c) ?_ ?_ ?_ hm h
  · intro c hc; show gn (labA M n 0) c ≤ c
    rw [labA, gn, List.getElem?_range hc]; exact Nat.le_refl _
  · intro t c; exact passA_le (M := M) (labA_length M n t) c n 0 (by omega) (Nat.le_refl _)
  · intro t a b e; exact passA_edge (labA_length M n t) e
end
end Go.Proofs.Ytcjaloddgilnpaa
