/- word.push, Reduce. -/
/- laurent.Of. -/
import Derived.Test.YtbkgpfalljgdcaaGreatDoorZOwn
import Derived.Test.YtbkgpfalljgdcaaGreatDoorChecked
import Derived.Deep.LoopGhost
import Derived.Deep.DeepCutAuto
import Derived.Deep.Cut
namespace Go.Proofs.YtbkgpfalljgdcaaGreatDoor
open Go.RowKit
set_option linter.unusedVariables false

/-- all old blocks but the slice's own are as they were -/
def KeepX (v : Value) (w W : World) : Prop := ∀ g, g < w.heap.size → v.ownBlock ≠ some g → W.heap[g]? = w.heap[g]?
theorem KeepX.refl (v : Value) (w : World) : KeepX v w w := fun _ _ _ => rfl
theorem KeepX.alloc {v : Value} {w W : World} (h : KeepX v w W) (hs : w.heap.size ≤ W.heap.size) (o : Obj) : KeepX v w (W.alloc o) := fun g hg hv => (Below.heap_alloc W o g (by omega)).trans (h g hg hv)
theorem KeepX.drewN {v : Value} {w W : World} (h : KeepX v w W) (n : Nat) : KeepX v w (W.drewN n) := h
theorem Ints.keepW {w W : World} {v : Value} {xs : List Int} (h : Ints w v xs) (hk : ∀ b, b < w.heap.size → W.heap[b]? = w.heap[b]?) : Ints W v xs := by
  refine h.keep fun b o hb => ?_
  unfold World.cell?
  rw [hk b hb]
/-- where a slice of the call's own lies, after it was appended to -/
def Moved (v v' : Value) (N : Nat) : Prop := v'.ownBlock = v.ownBlock ∨ ∀ g, v'.ownBlock = some g → N ≤ g
theorem KeepX.step {v u : Value} {w W W' : World} (h : KeepX v w W) (hs : w.heap.size ≤ W.heap.size) (hm : Moved v u w.heap.size) (hk : ∀ k, k < W.heap.size → u.ownBlock ≠ some k → W'.heap[k]? = W.heap[k]?) : KeepX v w W' := fun g hg hv =>
  (hk g (by omega) (fun e => by
    rcases hm with q | q
    · exact hv (q ▸ e)
    · have := q g e; omega)).trans (h g hg hv)
theorem Moved.step {v u u' : Value} {N M : Nat} (h : Moved v u N) (hM : N ≤ M) (k : u'.ownBlock = u.ownBlock ∨ u'.ownBlock = some M) : Moved v u' N := by
  rcases k with k | k
  · unfold Moved; rw [k]; exact h
  · exact .inr fun g e => by rw [k] at e; injection e with e; omega
theorem wpList_appIx {P : Program} {w : World} {e : TypeId} {base : Nat} {v : Value} {xs : List Int} {ops : Array Oper} {rest : List Oper} {o : Oper} {a : Act} {Q : Exit → Act → World → Prop} (hgd : o.guard = none) (s x : Operand) (t : TypeId) (ho : o.op = .call { callee := .builtin .append, args := #[s, x], argTypes := #[t, t] })
    {i : TypeInfo} (ht : P.underlying t = some (.slice e)) (hi : P.info? e = some i) (hz : i.zero = some (.int .i64 0)) (hs : i.size = 1) (hby : i.bytes = 8)
    (hv : a.eval s = v) (h : OwnI e base w v xs) {b : Nat} {y : Int} (hx : a.eval x = .slice (some ⟨b, 0, none⟩) 1 1) (hu : w.cell? ⟨b, 0, none⟩ = some (.int .i64 y)) (hlen : xs.length ≤ 100000000) (hbase : base ≤ w.heap.size)
    (hK : ∀ v' w', OwnI e base w' v' (xs ++ [y]) → Below base w w' → (∀ k, k < w.heap.size → v.ownBlock ≠ some k → w'.heap[k]? = w.heap[k]?) → (v'.ownBlock = v.ownBlock ∨ v'.ownBlock = some w.heap.size) → wpList P ops Q rest (a.put o.dst v') w') : wpList P ops Q (o :: rest) a w := by
  have hcells : ∀ j q, ([Value.int .i64 y])[j]? = some q → w.cell? ((⟨b, 0, none⟩ : Addr).add j) = some q := by
    intro j q hq
    cases j with
    | zero => injection hq with hq; subst hq; exact hu
    | succ j => simp at hq
  obtain ⟨v', w', hrun, h2, h3, _, h5⟩ := run_append_own_at (P := P) w base t o.type e i (.int .i64 0) 1 8 ht hi hz hs hby rfl (by decide) v xs.length (xs.map (Value.int .i64)) h ⟨b, 0, none⟩ 1 1 [.int .i64 y] rfl hcells
    (by intro q hq; simp at hq; subst hq; rfl) (by unfold maxLen; omega) (by omega) hbase
  refine wpList_plain hgd fun _ hk => ?_
  unfold Oper.wp execOp
  simp only [ho, resolve, invoke, builtin, Sem.run_bind, Sem.run_pure, Result.andThen_ok, List.map_toArray, List.map_cons, List.map_nil, hv, hx, hrun]
  refine hk _ _ (hK v' w' ?_ ((Below.refl _ _).grown h3 hbase h.block) (fun k hk hne => h3.block k hk (fun e => hne e.symm)) h5)
  unfold OwnI
  rw [List.length_append, List.map_append]
  simpa using h2
theorem OwnI.pop {e : TypeId} {base n g : Nat} {c : Nat} {w : World} {r : List Int} {y : Int} (h : OwnI e base w (.slice (some ⟨g, 0, none⟩) (n + 1) c) (r ++ [y])) (hn : r.length = n) : OwnI e base w (.slice (some ⟨g, 0, none⟩) n c) r := by
  subst hn
  refine ⟨by simp, ?_⟩
  rcases h.2 with ⟨h1, _⟩ | ⟨g', cap, cur, h1, h2, h3, h4, h5, h6, h7⟩
  · cases h1
  · injection h1 with e1 e2 e3
    injection e1 with e1
    injection e1 with e1
    subst e1 e3
    refine .inr ⟨g, c, cur, rfl, h2, h3, by simp at h4; omega, h5, h6, ?_⟩
    have : cur.toList.take (r.length * 1) = (cur.toList.take ((r ++ [y]).length * 1)).take (r.length * 1) := by
      rw [List.take_take, Nat.min_eq_left]; simp
    rw [this, h7, List.map_append, List.take_append_of_le_length (by simp), List.take_of_length_le (by simp)]
theorem OwnI.last {e : TypeId} {base : Nat} {w : World} {v : Value} {r : List Int} {y : Int} (h : OwnI e base w v (r ++ [y])) : ∃ g c, v = .slice (some ⟨g, 0, none⟩) (r.length + 1) c ∧ r.length + 1 ≤ c ∧ c ≤ 9223372036854775807 ∧ base ≤ g ∧ g < w.heap.size ∧ w.cell? ⟨g, r.length, none⟩ = some (.int .i64 y) := by
  have h9 := h.ints
  rcases h.2 with ⟨h1, h0⟩ | ⟨g', cap, cur, rfl, h2, h3, h4, h5, h6, h7⟩
  · simp at h0
  · obtain ⟨b, o, hA, hlt, hc⟩ := h9.at_ (k := r.length) (by simp)
    injection hA with hA
    injection hA with hA hB
    subst hA hB
    refine ⟨g', cap, by simp, by simpa using h4, h5, h2, hlt, ?_⟩
    rw [Nat.zero_add] at hc
    simpa using hc
theorem psh_len (s : List Int) (x : Int) : (psh s x).length ≤ s.length + 1 := by
  unfold psh
  split <;> simp <;> omega
theorem pshL_len (ls : List Int) : ∀ s, (pshL s ls).length ≤ s.length + ls.length := by
  induction ls with
  | nil => intro s; exact Nat.le_refl _
  | cons x ls ih => intro s; rw [pshL_cons]; have := ih (psh s x); have := psh_len s x; simp; omega
theorem psh_nil (x : Int) : psh [] x = [] ++ [x] := rfl
theorem psh_pop (r : List Int) (x : Int) : psh (r ++ [-x]) x = r := by unfold psh; simp
theorem psh_add (r : List Int) {x y : Int} (h : y ≠ -x) : psh (r ++ [y]) x = (r ++ [y]) ++ [x] := by unfold psh; simp [h]
theorem info_intQ : (Tryz.prog.info? 3).map (fun i => (i.zero, i.size, i.bytes)) = some (some (.int .i64 0), 1, 8) := by kernel_rfl
theorem ints_atZ {w : World} {v : Value} {xs : List Int} {k : Nat} (h : Ints w v xs) (hk : k < xs.length) : ∃ b o, (∃ c, v = .slice (some ⟨b, o, none⟩) xs.length c) ∧ b < w.heap.size ∧ w.cell? ⟨b, o + k, none⟩ = some (.int .i64 xs[k]) := by
  obtain ⟨A, c, rfl, _, hx⟩ := h
  obtain ⟨b, o, rfl, hc⟩ := hx k xs[k] (List.getElem?_eq_getElem hk)
  exact ⟨b, o, ⟨c, rfl⟩, block_lt_of_cell hc, hc⟩
theorem take_snocZ {l : List Int} {i : Nat} (h : i < l.length) : l.take (i + 1) = l.take i ++ [l[i]] := by
  rw [List.take_add_one, List.getElem?_eq_getElem h]; rfl
/-- the state of push's loop -/
structure PSt (base : Nat) (v : Value) (w : World) (u : Value) (st : List Int) (W : World) : Prop where
  own : OwnI 3 base W u st
  bel : Below base w W
  kx : KeepX v w W
  mv : Moved v u w.heap.size
  sz : w.heap.size ≤ W.heap.size
theorem PSt.app {base : Nat} {v u v' : Value} {w W w1 : World} {st : List Int} {x : Int} {ob : Obj} (h : PSt base v w u st W) (hb : base ≤ w.heap.size) (h1 : OwnI 3 base w1 v' (st ++ [x])) (h2 : Below base (W.alloc ob) w1)
    (h3 : ∀ k, k < (W.alloc ob).heap.size → u.ownBlock ≠ some k → w1.heap[k]? = (W.alloc ob).heap[k]?) (h4 : v'.ownBlock = u.ownBlock ∨ v'.ownBlock = some (W.alloc ob).heap.size) : PSt base v w v' (st ++ [x]) w1 :=
  have hs : w.heap.size ≤ (W.alloc ob).heap.size := by have := h.sz; simp; omega
  ⟨h1, (h.bel.alloc (Nat.le_trans hb h.sz) ob).trans h2, (h.kx.alloc h.sz ob).step hs h.mv h3, h.mv.step hs h4, Nat.le_trans hs h2.size⟩
theorem PSt.pop {base m g c : Nat} {v : Value} {w W : World} {r : List Int} {y : Int} (h : PSt base v w (.slice (some ⟨g, 0, none⟩) (m + 1) c) (r ++ [y]) W) (hm : r.length = m) : PSt base v w (.slice (some ⟨g, 0, none⟩) m c) r W := ⟨h.own.pop hm, h.bel, h.kx, h.mv, h.sz⟩
end Go.Proofs.YtbkgpfalljgdcaaGreatDoor

namespace Go.Proofs.YtbkgpfalljgdcaaGreatDoor
open Go.RowKit
set_option linter.unusedVariables false

/-- the state of Of's loop -/
structure FSt (w : World) (s : Value) (R : List (Int × Int)) (W : World) : Prop where
  own : OwnT (w.heap.size + 2) W s R
  rr : Arr W (w.heap.size + 1) 40 [.bool false, s]
  res : Arr W w.heap.size 40 [.bool false, .slice none 0 0]
  bel : Below w.heap.size w W
section
variable {w W W' : World} {s : Value} {R : List (Int × Int)}
theorem FSt.alloc (h : FSt w s R W) (o : Obj) : FSt w s R (W.alloc o) :=
  ⟨h.own.below ((Below.refl _ _).alloc (Nat.le_refl _) _), h.rr.alloc _, h.res.alloc _, h.bel.alloc h.bel.size _⟩
theorem FSt.app (h : FSt w s R W) {s' : Value} {m : Int × Int} (ho : OwnT (w.heap.size + 2) W' s' (R ++ [m])) (hg : Gr (w.heap.size + 2) W W' s.ownBlock) : Arr W' (w.heap.size + 1) 40 [.bool false, s] ∧ FSt w s' (R ++ [m]) (W'.setCell ⟨w.heap.size + 1, 1, none⟩ s') := by
  have a1 := h.own.apart h.rr (by decide)
  have a2 := h.own.apart h.res (by decide)
  have q1 : Arr W' (w.heap.size + 1) 40 [.bool false, s] := (hg.keep _ h.rr.lt a1).trans h.rr
  have q2 : Arr W' w.heap.size 40 [.bool false, .slice none 0 0] := (hg.keep _ h.res.lt a2).trans h.res
  exact ⟨q1, ho.far (p := ⟨w.heap.size + 1, 1, none⟩) (ho.apart q1 (by decide)) _, q1.set 1 _, q2.far (p := ⟨w.heap.size + 1, 1, none⟩) (show w.heap.size ≠ w.heap.size + 1 by omega) _, (h.bel.trans (hg.below.mono (by omega))).setCell (p := ⟨w.heap.size + 1, 1, none⟩) (show w.heap.size ≤ w.heap.size + 1 by omega) _⟩
end
set_option maxHeartbeats 2000000 in
set_option maxRecDepth 100000 in
theorem Of_any (low : Int) (vc : Value) (cs : List Int) (w : World) (hc : Ints w vc cs) (hl : cs.length ≤ 1000000) (hlo : -9223372036854775808 ≤ low ∧ low ≤ 9223372036854775807) :
    Calls Tryz.prog 27 #[.int .i64 low, vc] w fun e w' => ∃ v, e = .returned v ∧ PolyV w' v (ofP low cs) ∧ Below w.heap.size w w' := by
  have HC := Lib.hid (fun W (hb : Below w.heap.size w W) => hc.below hb)
  obtain ⟨A, c, rfl, _, _⟩ := hc
  obtain ⟨P, hP⟩ : ∃ P, P = ofP low cs := ⟨_, rfl⟩
  rw [← hP]
  have HP := Lib.hid hP
  clear hP
  have hst : FSt w (.slice none 0 0) [] ((w.alloc (.cells #[.bool false, .slice none 0 0] 40)).alloc (.cells #[.bool false, .slice none 0 0] 40)) :=
    ⟨OwnT.nil _ _, Arr.newAt (w.alloc _) _ [_, _] _ (by simp), (Arr.new _ _ [_, _]).alloc _, ((Below.refl _ _).alloc (Nat.le_refl _) _).alloc (by simp) _⟩
  go_enter Tryz.func27, Tryz.ntmps27
  go_upto_region 2 with fail
  generalize ((w.alloc (.cells #[.bool false, .slice none 0 0] 40)).alloc (.cells #[.bool false, .slice none 0 0] 40)) = w3 at hst ⊢
  go_wp2_with fail
  go_loopg [6, 7, 10] cs.length (fun gk s6 s7 s10 wr => ∃ (k : Nat) (s : Value), k ≤ cs.length ∧ gk = cs.length - k ∧ s10 = .int .i64 (k : Int) ∧ FSt w s (ofL low (cs.take k)) wr ∧ Hid (ofB low (cs.take k) = true))
  case atStart => exact ⟨0, _, Nat.zero_le _, rfl, rfl, hst, Lib.hid rfl⟩
  case round =>
    clear hst
    obtain ⟨k, s, hk, rfl, rfl, hst, HK⟩ := hrel
    by_cases hlt : k < cs.length
    · have z1 : (k : Int) < (cs.length : Int) := by omega
      obtain ⟨b, o, ⟨c', hv⟩, _, hcell⟩ := ints_atZ (HC.out wr hst.bel) hlt
      injection hv with hv1 hv2 hv3
      subst hv1 hv3
      clear hv2
      have hkl : (cs.take k).length = k := by simp; omega
      have HL := Lib.hid (ofL_snoc low (cs.take k) cs[k])
      have HB := Lib.hid (ofB_snoc low (cs.take k) cs[k])
      rw [← take_snocZ hlt, hkl] at HL HB
      have HBad := Lib.hid (fun (h : ofB low (cs.take (k + 1)) = false) => (show P = none from by rw [HP.out]; unfold ofP; rw [ofB_take h]; rfl))
      have hrl : (ofL low (cs.take k)).length ≤ 1000000 := by have := ofL_len low (cs.take k); omega
      generalize cs[k] = x at *
      generalize ofL low (cs.take k) = R at *
      have HST := Lib.hid hst
      obtain ⟨Ax, nx, cx, rfl⟩ := hst.own.form3
      by_cases hx : x = 0
      · have z2 : (x == 0) = true := by simp [hx]
        have HL2 := Lib.hid (show ofL low (cs.take (k + 1)) = R from by rw [HL.out, if_pos hx, List.append_nil])
        have HB2 := Lib.hid (show ofB low (cs.take (k + 1)) = true from by rw [HB.out, HK.out]; simp [hx])
        clear HL HB HBad hx hst
        go_wp2_with fail
        go_roundg (cs.length - (k + 1))
        case measure => omega
        case rel => exact ⟨k + 1, _, by omega, rfl, by go_num, by rw [HL2.out]; exact HST.out, HB2⟩
      · have z2 : (x == 0) = false := by simp [hx]
        have HL2 := Lib.hid (show ofL low (cs.take (k + 1)) = R ++ [(low + k, x)] from by rw [HL.out, if_neg hx])
        have HB2 := Lib.hid (show ofB low (cs.take (k + 1)) = (wiB x 1125899906842624 && wiB (low + k) 1048576) from by rw [HB.out, HK.out, z2]; rfl)
        clear HL HB hx
        have qr := hst.res
        have q1 := hst.rr
        have x0 := qr.cell 0
        have x1 := qr.cell 1
        have f0 := qr.frozen 0
        have f1 := qr.frozen 1
        have HRS := Lib.hid ((qr.set 0 (.bool true)).set 1 (.slice none 0 0))
        have HBE := Lib.hid ((hst.bel.setCell (p := ⟨w.heap.size, 0, none⟩) (Nat.le_refl _) (.bool true)).setCell (p := ⟨w.heap.size, 1, none⟩) (Nat.le_refl _) (.slice none 0 0))
        have y1 := q1.cell 1
        clear hst qr q1
        have HW1 := Lib.hid (fun W => within_any x 1125899906842624 W (by omega) (by omega))
        obtain ⟨W1, hW1⟩ : ∃ z, z = wiB x 1125899906842624 := ⟨_, rfl⟩
        rw [← hW1] at HW1 HB2
        clear hW1
        cases W1 with
        | false =>
          have HPN := Lib.hid (HBad.out (by rw [HB2.out]; rfl))
          clear HBad HB2 HL2
          go_wp2_with (go_at_call 37; refine (HW1.out _).mono ?_; rintro e w1 ⟨rfl, rfl⟩)
          refine bodyPost_ret (v := .agg #[.bool true, .slice none 0 0]) (results_c Tryz.results27 _ _ w.heap.size 40 _ _ rfl HRS.out Tryz.underlying40 rfl info_poly) rfl ?_
          exact ⟨_, rfl, by rw [HPN.out]; exact PolyV.big _, HBE.out⟩
        | true =>
          by_cases hgt : low > 1048576
          · have HPN := Lib.hid (HBad.out (by
              rw [HB2.out, Bool.true_and]
              unfold wiB
              exact decide_eq_false (by omega)))
            clear HBad HB2 HL2
            go_wp2_with (go_at_call 37; refine (HW1.out _).mono ?_; rintro e w1 ⟨rfl, rfl⟩)
            refine bodyPost_ret (v := .agg #[.bool true, .slice none 0 0]) (results_c Tryz.results27 _ _ w.heap.size 40 _ _ rfl HRS.out Tryz.underlying40 rfl info_poly) rfl ?_
            exact ⟨_, rfl, by rw [HPN.out]; exact PolyV.big _, HBE.out⟩
          · have HW2 := Lib.hid (fun W => within_any (low + k) 1048576 W (by omega) (by omega))
            obtain ⟨W2, hW2⟩ : ∃ z, z = wiB (low + k) 1048576 := ⟨_, rfl⟩
            have hex : W2 = true → -1048576 ≤ low + k ∧ low + k ≤ 1048576 := fun e => wiB_iff.1 (hW2.symm.trans e)
            rw [← hW2] at HW2 HB2
            clear hW2
            cases W2 with
            | false =>
              have HPN := Lib.hid (HBad.out (by rw [HB2.out]; rfl))
              clear HBad HB2 HL2 hex
              go_wp2_with fail
              refine (HW1.out _).mono ?_
              rintro e w1 ⟨rfl, rfl⟩
              clear HW1
              go_wp2_with fail
              refine (HW2.out _).mono ?_
              rintro e w1 ⟨rfl, rfl⟩
              clear HW2
              go_wp2_with fail
              refine bodyPost_ret (v := .agg #[.bool true, .slice none 0 0]) (results_c Tryz.results27 _ _ w.heap.size 40 _ _ rfl HRS.out Tryz.underlying40 rfl info_poly) rfl ?_
              exact ⟨_, rfl, by rw [HPN.out]; exact PolyV.big _, HBE.out⟩
            | true =>
              obtain ⟨hx1, hx2⟩ := hex rfl
              clear HBad hex
              go_wp2_with fail
              refine (HW1.out _).mono ?_
              rintro e w1 ⟨rfl, rfl⟩
              clear HW1
              go_wp2_with fail
              refine (HW2.out _).mono ?_
              rintro e w1 ⟨rfl, rfl⟩
              clear HW2
              have HUU := Lib.hid (Arr.new wr 67 [.int .i64 (low + k), .int .i64 x])
              have HSA := Lib.hid (HST.out.alloc (.cells #[.int .i64 (low + k), .int .i64 x] 67))
              have hszb : w.heap.size + 2 ≤ (wr.alloc (.cells #[.int .i64 (low + k), .int .i64 x] 67)).heap.size := by have := HST.out.rr.lt; simp; omega
              have HSZ := Lib.hid hszb
              clear hszb x0 x1 f0 f1
              have HRL := Lib.hid (show R.length ≤ 100000000 from by omega)
              go_wp2_with (at_builtin; refine wpList_appT rfl (.tmp 33) (.tmp 39) rfl rfl HSA.out.own (m := (low + k, x)) rfl HUU.out HRL.out HSZ.out ?_; intro v' w1 hown1 hgr1; obtain ⟨q1, h2⟩ := HSA.out.app hown1 hgr1; obtain ⟨Av, nv, cv, rfl⟩ := hown1.form3; have HN := Lib.hid h2; have f1 := q1.frozen 1; have yq := q1.cell 1; clear hown1 hgr1 q1 h2)
              go_roundg (cs.length - (k + 1))
              case measure => omega
              case rel => exact ⟨k + 1, _, by omega, rfl, by go_num, by rw [HL2.out]; exact HN.out, Lib.hid HB2.out⟩
    · have z1 : ¬ (k : Int) < (cs.length : Int) := by omega
      have hkk : cs.take k = cs := List.take_of_length_le (by omega)
      have HE := Lib.hid (show P = some (ofL low cs) from by
        rw [HP.out]; unfold ofP
        have := HK.out
        rw [hkk] at this
        rw [this]; rfl)
      rw [hkk] at hst
      have HV := Lib.hid hst
      obtain ⟨Ax, cx, rfl⟩ := hst.own.form
      have qr := hst.res
      have q1 := hst.rr
      have y0 := q1.cell 0
      have y1 := q1.cell 1
      have f0 := qr.frozen 0
      have f1 := qr.frozen 1
      have x0 := qr.cell 0
      have x1 := qr.cell 1
      have HRS := Lib.hid ((qr.set 0 (.bool false)).set 1 (.slice Ax (ofL low cs).length cx))
      have HPV := Lib.hid (PolyV.own hst.own)
      have HPB := Lib.hid ((HPV.out).box qr (.bool false) (.slice Ax (ofL low cs).length cx))
      have HBE := Lib.hid ((hst.bel.setCell (p := ⟨w.heap.size, 0, none⟩) (Nat.le_refl _) (.bool false)).setCell (p := ⟨w.heap.size, 1, none⟩) (Nat.le_refl _) (.slice Ax (ofL low cs).length cx))
      clear hst qr q1
      go_wp2_with fail
      refine bodyPost_ret (v := .agg #[.bool false, .slice Ax (ofL low cs).length cx]) (results_c Tryz.results27 _ _ w.heap.size 40 _ _ rfl HRS.out Tryz.underlying40 rfl info_poly) rfl ?_
      exact ⟨_, rfl, by rw [HE.out]; exact HPB.out, HBE.out⟩
end Go.Proofs.YtbkgpfalljgdcaaGreatDoor
