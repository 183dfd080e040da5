/- word.push, Reduce. -/
import Derived.Test.YtlbihllmpbhhcaaGreatDoorFod
import Derived.Test.YtlbihllmpbhhcaaGreatDoorOwn
import Derived.Test.YtlbihllmpbhhcaaGreatDoorChecked
import Derived.Deep.LoopGhost
import Derived.Deep.DeepCutAuto
import Derived.Deep.Cut
namespace Go.Proofs.YtlbihllmpbhhcaaGreatDoor
open Go.RowKit
set_option linter.unusedVariables false

/-- all old blocks but the slice's own are as they were -/
def KeepX (v : Value) (w W : World) : Prop := ∀ g, g < w.heap.size → v.ownBlock ≠ some g → W.heap[g]? = w.heap[g]?
theorem KeepX.refl (v : Value) (w : World) : KeepX v w w := fun _ _ _ => rfl
theorem KeepX.alloc {v : Value} {w W : World} (h : KeepX v w W) (hs : w.heap.size ≤ W.heap.size) (o : Obj) : KeepX v w (W.alloc o) := fun g hg hv => (Below.heap_alloc W o g (by omega)).trans (h g hg hv)
theorem KeepX.drewN {v : Value} {w W : World} (h : KeepX v w W) (n : Nat) : KeepX v w (W.drewN n) := h
theorem Ints.keepW {w W : World} {v : Value} {xs : List Int} (h : Ints w v xs) (hk : ∀ b, b < w.heap.size → W.heap[b]? = w.heap[b]?) : Ints W v xs := by
  refine h.keep fun b o hb => ?_
  unfold World.cell?
  rw [hk b hb]
/-- where a slice of the call's own lies, after it was appended to -/
def Moved (v v' : Value) (N : Nat) : Prop := v'.ownBlock = v.ownBlock ∨ ∀ g, v'.ownBlock = some g → N ≤ g
theorem KeepX.step {v u : Value} {w W W' : World} (h : KeepX v w W) (hs : w.heap.size ≤ W.heap.size) (hm : Moved v u w.heap.size) (hk : ∀ k, k < W.heap.size → u.ownBlock ≠ some k → W'.heap[k]? = W.heap[k]?) : KeepX v w W' := fun g hg hv =>
  (hk g (by omega) (fun e => by
    rcases hm with q | q
    · exact hv (q ▸ e)
    · have := q g e; omega)).trans (h g hg hv)
theorem Moved.step {v u u' : Value} {N M : Nat} (h : Moved v u N) (hM : N ≤ M) (k : u'.ownBlock = u.ownBlock ∨ u'.ownBlock = some M) : Moved v u' N := by
  rcases k with k | k
  · unfold Moved; rw [k]; exact h
  · exact .inr fun g e => by rw [k] at e; injection e with e; omega
theorem wpList_appIx {P : Program} {w : World} {e : TypeId} {base : Nat} {v : Value} {xs : List Int} {ops : Array Oper} {rest : List Oper} {o : Oper} {a : Act} {Q : Exit → Act → World → Prop} (hgd : o.guard = none) (s x : Operand) (t : TypeId) (ho : o.op = .call { callee := .builtin .append, args := #[s, x], argTypes := #[t, t] })
    {i : TypeInfo} (ht : P.underlying t = some (.slice e)) (hi : P.info? e = some i) (hz : i.zero = some (.int .i64 0)) (hs : i.size = 1) (hby : i.bytes = 8)
    (hv : a.eval s = v) (h : OwnI e base w v xs) {b : Nat} {y : Int} (hx : a.eval x = .slice (some ⟨b, 0, none⟩) 1 1) (hu : w.cell? ⟨b, 0, none⟩ = some (.int .i64 y)) (hlen : xs.length ≤ 100000000) (hbase : base ≤ w.heap.size)
    (hK : ∀ v' w', OwnI e base w' v' (xs ++ [y]) → Below base w w' → (∀ k, k < w.heap.size → v.ownBlock ≠ some k → w'.heap[k]? = w.heap[k]?) → (v'.ownBlock = v.ownBlock ∨ v'.ownBlock = some w.heap.size) → wpList P ops Q rest (a.put o.dst v') w') : wpList P ops Q (o :: rest) a w := by
  have hcells : ∀ j q, ([Value.int .i64 y])[j]? = some q → w.cell? ((⟨b, 0, none⟩ : Addr).add j) = some q := by
    intro j q hq
    cases j with
    | zero => injection hq with hq; subst hq; exact hu
    | succ j => simp at hq
  obtain ⟨v', w', hrun, h2, h3, _, h5⟩ := run_append_own_at (P := P) w base t o.type e i (.int .i64 0) 1 8 ht hi hz hs hby rfl (by decide) v xs.length (xs.map (Value.int .i64)) h ⟨b, 0, none⟩ 1 1 [.int .i64 y] rfl hcells
    (by intro q hq; simp at hq; subst hq; rfl) (by unfold maxLen; omega) (by omega) hbase
  refine wpList_plain hgd fun _ hk => ?_
  unfold Oper.wp execOp
  simp only [ho, resolve, invoke, builtin, Sem.run_bind, Sem.run_pure, Result.andThen_ok, List.map_toArray, List.map_cons, List.map_nil, hv, hx, hrun]
  refine hk _ _ (hK v' w' ?_ ((Below.refl _ _).grown h3 hbase h.block) (fun k hk hne => h3.block k hk (fun e => hne e.symm)) h5)
  unfold OwnI
  rw [List.length_append, List.map_append]
  simpa using h2
theorem OwnI.pop {e : TypeId} {base n g : Nat} {c : Nat} {w : World} {r : List Int} {y : Int} (h : OwnI e base w (.slice (some ⟨g, 0, none⟩) (n + 1) c) (r ++ [y])) (hn : r.length = n) : OwnI e base w (.slice (some ⟨g, 0, none⟩) n c) r := by
  subst hn
  refine ⟨by simp, ?_⟩
  rcases h.2 with ⟨h1, _⟩ | ⟨g', cap, cur, h1, h2, h3, h4, h5, h6, h7⟩
  · cases h1
  · injection h1 with e1 e2 e3
    injection e1 with e1
    injection e1 with e1
    subst e1 e3
    refine .inr ⟨g, c, cur, rfl, h2, h3, by simp at h4; omega, h5, h6, ?_⟩
    have : cur.toList.take (r.length * 1) = (cur.toList.take ((r ++ [y]).length * 1)).take (r.length * 1) := by
      rw [List.take_take, Nat.min_eq_left]; simp
    rw [this, h7, List.map_append, List.take_append_of_le_length (by simp), List.take_of_length_le (by simp)]
theorem OwnI.last {e : TypeId} {base : Nat} {w : World} {v : Value} {r : List Int} {y : Int} (h : OwnI e base w v (r ++ [y])) : ∃ g c, v = .slice (some ⟨g, 0, none⟩) (r.length + 1) c ∧ r.length + 1 ≤ c ∧ c ≤ 9223372036854775807 ∧ base ≤ g ∧ g < w.heap.size ∧ w.cell? ⟨g, r.length, none⟩ = some (.int .i64 y) := by
  have h9 := h.ints
  rcases h.2 with ⟨h1, h0⟩ | ⟨g', cap, cur, rfl, h2, h3, h4, h5, h6, h7⟩
  · simp at h0
  · obtain ⟨b, o, hA, hlt, hc⟩ := h9.at_ (k := r.length) (by simp)
    injection hA with hA
    injection hA with hA hB
    subst hA hB
    refine ⟨g', cap, by simp, by simpa using h4, h5, h2, hlt, ?_⟩
    rw [Nat.zero_add] at hc
    simpa using hc
theorem psh_len (s : List Int) (x : Int) : (psh s x).length ≤ s.length + 1 := by
  unfold psh
  split <;> simp <;> omega
theorem pshL_len (ls : List Int) : ∀ s, (pshL s ls).length ≤ s.length + ls.length := by
  induction ls with
  | nil => intro s; exact Nat.le_refl _
  | cons x ls ih => intro s; rw [pshL_cons]; have := ih (psh s x); have := psh_len s x; simp; omega
theorem psh_nil (x : Int) : psh [] x = [] ++ [x] := rfl
theorem psh_pop (r : List Int) (x : Int) : psh (r ++ [-x]) x = r := by unfold psh; simp
theorem psh_add (r : List Int) {x y : Int} (h : y ≠ -x) : psh (r ++ [y]) x = (r ++ [y]) ++ [x] := by unfold psh; simp [h]
theorem info_int : (Tryz.prog.info? 3).map (fun i => (i.zero, i.size, i.bytes)) = some (some (.int .i64 0), 1, 8) := by kernel_rfl
theorem ints_atZ {w : World} {v : Value} {xs : List Int} {k : Nat} (h : Ints w v xs) (hk : k < xs.length) : ∃ b o, (∃ c, v = .slice (some ⟨b, o, none⟩) xs.length c) ∧ b < w.heap.size ∧ w.cell? ⟨b, o + k, none⟩ = some (.int .i64 xs[k]) := by
  obtain ⟨A, c, rfl, _, hx⟩ := h
  obtain ⟨b, o, rfl, hc⟩ := hx k xs[k] (List.getElem?_eq_getElem hk)
  exact ⟨b, o, ⟨c, rfl⟩, block_lt_of_cell hc, hc⟩
theorem take_snocZ {l : List Int} {i : Nat} (h : i < l.length) : l.take (i + 1) = l.take i ++ [l[i]] := by
  rw [List.take_add_one, List.getElem?_eq_getElem h]; rfl
/-- the state of push's loop -/
structure PSt (base : Nat) (v : Value) (w : World) (u : Value) (st : List Int) (W : World) : Prop where
  own : OwnI 3 base W u st
  bel : Below base w W
  kx : KeepX v w W
  mv : Moved v u w.heap.size
  sz : w.heap.size ≤ W.heap.size
theorem PSt.app {base : Nat} {v u v' : Value} {w W w1 : World} {st : List Int} {x : Int} {ob : Obj} (h : PSt base v w u st W) (hb : base ≤ w.heap.size) (h1 : OwnI 3 base w1 v' (st ++ [x])) (h2 : Below base (W.alloc ob) w1)
    (h3 : ∀ k, k < (W.alloc ob).heap.size → u.ownBlock ≠ some k → w1.heap[k]? = (W.alloc ob).heap[k]?) (h4 : v'.ownBlock = u.ownBlock ∨ v'.ownBlock = some (W.alloc ob).heap.size) : PSt base v w v' (st ++ [x]) w1 :=
  have hs : w.heap.size ≤ (W.alloc ob).heap.size := by have := h.sz; simp; omega
  ⟨h1, (h.bel.alloc (Nat.le_trans hb h.sz) ob).trans h2, (h.kx.alloc h.sz ob).step hs h.mv h3, h.mv.step hs h4, Nat.le_trans hs h2.size⟩
theorem PSt.pop {base m g c : Nat} {v : Value} {w W : World} {r : List Int} {y : Int} (h : PSt base v w (.slice (some ⟨g, 0, none⟩) (m + 1) c) (r ++ [y]) W) (hm : r.length = m) : PSt base v w (.slice (some ⟨g, 0, none⟩) m c) r W := ⟨h.own.pop hm, h.bel, h.kx, h.mv, h.sz⟩
set_option maxHeartbeats 2000000 in
set_option maxRecDepth 100000 in
theorem push_any (base : Nat) (v vl : Value) (s ls : List Int) (w : World) (ho : OwnI 3 base w v s) (hl : ∀ W, KeepX v w W → Ints W vl ls) (hb : base ≤ w.heap.size) (hlen : s.length + ls.length ≤ 1000000) (hx : ∀ x ∈ ls, -1000000000 ≤ x ∧ x ≤ 1000000000) :
    Calls Tryz.prog 33 #[v, vl] w fun e w' => ∃ v', e = .returned v' ∧ PSt base v w v' (pshL s ls) w' := by
  obtain ⟨i0, hi, hz0, hz1, hz2⟩ := info_parts info_int
  have HL := Lib.hid hl
  have HX := Lib.hid hx
  obtain ⟨A2, c2, rfl, _, _⟩ := hl w (KeepX.refl _ _)
  obtain ⟨R, hR⟩ : ∃ R, R = pshL s ls := ⟨_, rfl⟩
  rw [← hR]
  have HR := Lib.hid hR
  have hst : PSt base v w v s w := ⟨ho, Below.refl _ _, KeepX.refl _ _, .inl rfl, Nat.le_refl _⟩
  have HI := Lib.hid hi
  have HZ0 := Lib.hid hz0
  have HZ1 := Lib.hid hz1
  have HZ2 := Lib.hid hz2
  clear hl hx hR ho hi hz0 hz1 hz2
  go_enter Tryz.func33, Tryz.ntmps33
  go_wp2_with fail
  go_loopg [0, 6, 7, 10] ls.length (fun gk s0 s6 s7 s10 wr => ∃ k : Nat, k ≤ ls.length ∧ gk = ls.length - k ∧ s10 = .int .i64 (k : Int) ∧ PSt base v w s0 (pshL s (ls.take k)) wr)
  case atStart => exact ⟨0, Nat.zero_le _, rfl, rfl, hst⟩
  case round =>
    clear hst
    obtain ⟨k, hk, rfl, rfl, hst⟩ := hrel
    by_cases hlt : k < ls.length
    · have z1 : (k : Int) < (ls.length : Int) := by omega
      obtain ⟨b, o, ⟨c', hv⟩, _, hcell⟩ := ints_atZ (HL.out wr hst.kx) hlt
      injection hv with hv1 hv2 hv3
      subst hv1 hv3
      clear hv2
      have hxk := HX.out ls[k] (List.getElem_mem hlt)
      have HP := Lib.hid (show pshL s (ls.take (k + 1)) = psh (pshL s (ls.take k)) ls[k] from by rw [take_snocZ hlt, pshL_snoc])
      have hsl : (pshL s (ls.take k)).length ≤ 1000000 := by have h1 := pshL_len (ls.take k) s; have h2 : (ls.take k).length ≤ k := List.length_take_le _ _; omega
      generalize ls[k] = x at *
      generalize pshL s (ls.take k) = st at *
      rcases List.eq_nil_or_concat st with rfl | ⟨r, y, rfl⟩
      · obtain ⟨A, c, rfl⟩ := hst.own.form
        simp only [List.length_nil] at *
        have HST := Lib.hid hst
        have hc1 := World.cell?_alloc_new wr #[.int .i64 x] 3 0
        have hsz := Nat.le_trans hb hst.sz
        clear hst hsl
        go_wp2_with (at_builtin; refine wpList_appIx rfl _ _ 38 rfl Tryz.underlying38 HI.out HZ0.out HZ1.out HZ2.out rfl (HST.out.own.alloc _) (b := wr.heap.size) (y := x) rfl (by simp [go_sem]) (by simp) (by simp; omega) ?_; intro v' w1 hown1 hbel1 hkx1 hmv1)
        have hst1 := PSt.app HST.out hb hown1 hbel1 hkx1 hmv1
        have HST1 := Lib.hid hst1
        clear hst1 hown1 hbel1 hkx1 hmv1 HST
        go_wp2_with fail
        go_roundg (ls.length - (k + 1))
        case measure => omega
        case rel => exact ⟨k + 1, by omega, rfl, by go_num, by rw [HP.out]; exact HST1.out⟩
      · simp only [List.concat_eq_append] at *
        obtain ⟨g, c, rfl, hgc, hgc2, hbg, hgl, y0⟩ := hst.own.last
        have hrl : r.length ≤ 1000000 := by simp at hsl; omega
        obtain ⟨m, hm⟩ : ∃ m, m = r.length := ⟨_, rfl⟩
        rw [← hm] at hgc y0 hrl hst ⊢
        have HST := Lib.hid hst
        have HM := Lib.hid hm
        have hsz := Nat.le_trans hb hst.sz
        have z2 : ((m : Int) + 1 - 1) = (m : Int) := by omega
        have z3 : (m : Int) < (m : Int) + 1 := by omega
        have z4 : (m : Int) ≤ (c : Int) := by omega
        have z5 : ((m + 1 : Nat) : Int) = (m : Int) + 1 := by omega
        clear hst hsl hm
        by_cases hyx : y = -x
        · have z6 : (y == -x) = true := by simp [hyx]
          have HQ := Lib.hid (show psh (r ++ [y]) x = r from by rw [hyx]; exact psh_pop r x)
          have HST1 := Lib.hid (HST.out.pop HM.out.symm)
          clear hyx
          go_wp2_with fail
          go_roundg (ls.length - (k + 1))
          case measure => omega
          case rel => exact ⟨k + 1, by omega, rfl, by go_num, by rw [HP.out, HQ.out]; exact HST1.out⟩
        · have z6 : (y == -x) = false := by simp [hyx]
          have HQ := Lib.hid (show psh (r ++ [y]) x = (r ++ [y]) ++ [x] from psh_add r hyx)
          have HLN := Lib.hid (show (r ++ [y]).length ≤ 100000000 from by rw [List.length_append, ← HM.out]; simp; omega)
          clear hyx
          go_wp2_with (at_builtin; refine wpList_appIx rfl _ _ 38 rfl Tryz.underlying38 HI.out HZ0.out HZ1.out HZ2.out rfl (HST.out.own.alloc _) (b := wr.heap.size) (y := x) rfl (by simp [go_sem]) HLN.out (by simp; omega) ?_; intro v' w1 hown1 hbel1 hkx1 hmv1)
          have hst1 := PSt.app HST.out hb hown1 hbel1 hkx1 hmv1
          have HST1 := Lib.hid hst1
          clear hst1 hown1 hbel1 hkx1 hmv1 HST
          go_wp2_with fail
          go_roundg (ls.length - (k + 1))
          case measure => omega
          case rel => exact ⟨k + 1, by omega, rfl, by go_num, by rw [HP.out, HQ.out]; exact HST1.out⟩
    · have z1 : ¬ (k : Int) < (ls.length : Int) := by omega
      have HE := Lib.hid (show R = pshL s (ls.take k) from by rw [HR.out, List.take_of_length_le (by omega)])
      go_wp2_with fail
      go_ret
      exact ⟨_, rfl, by rw [HE.out]; exact hst⟩
end Go.Proofs.YtlbihllmpbhhcaaGreatDoor
