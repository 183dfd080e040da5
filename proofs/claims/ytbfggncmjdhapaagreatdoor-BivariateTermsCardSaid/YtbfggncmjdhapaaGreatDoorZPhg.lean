/- slices.Equal at terms; laurent's Equal. -/
/- laurent.Of. -/
/- Polynomials in one variable told by a list of terms: contracts. -/
/- XPhi for a region with guards ('&&', '||') that are all met: each operation is walked once; of a guarded one it is shown that its guard holds. -/
import Derived.Test.YtbfggncmjdhapaaGreatDoorZPad
import Derived.Laws.StructEq
import Derived.Test.YtbfggncmjdhapaaGreatDoorZAug
import Derived.Test.YtbfggncmjdhapaaGreatDoorZPsh
import Derived.Test.YtbfggncmjdhapaaGreatDoorZMua
import Derived.Test.YtbfggncmjdhapaaGreatDoorZBmb
namespace Go.Proofs.YtbfggncmjdhapaaGreatDoor
open Go.RowKit
set_option linter.unusedVariables false

def eqT (s t : Int × Int) : Bool := decide (s = t)
theorem neq_term (a b c d : Int) (w : World) : (binOp .neq 76 (.agg #[.int .i64 a, .int .i64 b]) (.agg #[.int .i64 c, .int .i64 d])).run Tryz.prog w = .ok (.bool (!eqT (a, b) (c, d))) w := by
  have u3 := Tryz.underlying3
  have a3 := Tryz.isAgg3
  have z3 := Tryz.sizeOf3
  have hS : Tryz.prog.underlying 76 = some (.struct (Tryz.prog.fieldsOf 76)) := by kernel_rfl
  have hp : Tryz.prog.stoodInHeld 76 = false := by kernel_rfl
  rw [run_neq_struct, show (10000 : Nat) = 9999 + 1 from rfl, run_equalIn_agg w 9999 76 _ _ hS hp]
  simp only [Program.fieldsOf, Tryz.underlying76]
  go_simp
  unfold eqT
  by_cases h1 : a = c <;> by_cases h2 : b = d <;> simp [h1, h2]
theorem guard_term (op : BinOp) (x y : Operand) (xs ys : Array Value) (w : World) : (eqGuard op 76 x y (.agg xs) (.agg ys)).run Tryz.prog w = .ok () w :=
  run_eqGuard_agg w op _ x y xs ys (by kernel_rfl)
def eqL (l m : List (Int × Int)) : Bool := decide (l = m)
theorem eqL_ne {l m : List (Int × Int)} {k : Nat} (h1 : k < l.length) (h2 : k < m.length) (h : eqT l[k] m[k] = false) : eqL l m = false := by
  unfold eqL
  refine decide_eq_false fun e => ?_
  subst e
  unfold eqT at h
  simp at h
set_option maxHeartbeats 2000000 in
set_option maxRecDepth 100000 in
theorem slEqual_any (A A2 : Option Addr) (n n2 c c2 : Nat) (l m : List (Int × Int)) (w : World) (h : Tms w (.slice A n c) l) (k : Tms w (.slice A2 n2 c2) m) (hn : n = l.length) (hn2 : n2 = m.length) (hl : l.length ≤ 4611686018427387904) (hm : m.length ≤ 4611686018427387904) :
    Calls Tryz.prog 55 #[.slice A n c, .slice A2 n2 c2] w fun e w' => e = .returned (.bool (eqL l m)) ∧ ∃ q, w' = w.drewN q := by
  subst hn hn2
  obtain ⟨V, hV⟩ : ∃ V, V = eqL l m := ⟨_, rfl⟩
  rw [← hV]
  have HV := Lib.hid hV
  clear hV
  have HL := Lib.hid h
  have HM := Lib.hid k
  clear h k
  by_cases hlm : l.length = m.length
  · have HLM := Lib.hid hlm
    have z0 : ((l.length : Int) != (m.length : Int)) = false := by rw [hlm]; simp
    clear hlm
    go_enter Tryz.func55, Tryz.ntmps55
    go_wp2_with fail
    go_loopg [13] l.length (fun gk s13 wr => ∃ k q : Nat, k ≤ l.length ∧ gk = l.length - k ∧ s13 = .int .i64 (k : Int) ∧ wr = w.drewN q ∧ Hid (l.take k = m.take k))
    case atStart => exact ⟨0, 0, Nat.zero_le _, rfl, rfl, rfl, Lib.hid rfl⟩
    case round =>
      obtain ⟨k, q, hk, rfl, rfl, rfl, HK⟩ := hrel
      by_cases hlt : k < l.length
      · have hlt2 : k < m.length := by have := HLM.out; omega
        have z1 : (k : Int) < (l.length : Int) := by omega
        have z2 : (k : Int) < (m.length : Int) := by omega
        obtain ⟨b, o, rfl, _, y0, y1⟩ := HL.out.at_ hlt
        obtain ⟨b2, o2, rfl, _, x0, x1⟩ := HM.out.at_ hlt2
        have HN := Lib.hid (fun h => eqL_ne hlt hlt2 h)
        have HY := Lib.hid (fun (h : eqT l[k] m[k] = true) => (show l.take (k + 1) = m.take (k + 1) from by
          rw [take_snoc' hlt, take_snoc' hlt2, HK.out, of_decide_eq_true h]))
        clear HK
        generalize l[k] = s at *
        generalize m[k] = t at *
        obtain ⟨s1, s2⟩ := s
        obtain ⟨t1, t2⟩ := t
        have hne := fun (W : World) => neq_term s1 s2 t1 t2 W
        have hgd := fun (op : BinOp) (x y : Operand) (W : World) => guard_term op x y #[.int .i64 s1, .int .i64 s2] #[.int .i64 t1, .int .i64 t2] W
        cases hE : eqT (s1, s2) (t1, t2) with
        | true =>
          rw [hE] at hne
          have HK2 := Lib.hid (HY.out hE)
          clear HY HN hE
          go_wp2_with fail
          go_quiet (fail)
          go_wp2_with fail
          go_roundg (l.length - (k + 1))
          case measure => omega
          case rel => exact ⟨k + 1, q + nq, by omega, rfl, by go_num, rfl, HK2⟩
        | false =>
          rw [hE] at hne
          have HF := Lib.hid (HN.out hE)
          clear HY HN hE
          go_wp2_with fail
          go_quiet (fail)
          go_wp2_with fail
          go_ret
          exact ⟨by rw [HV.out, HF.out]; rfl, q + nq, World.drewN_drewN _ _ _⟩
      · have z1 : ¬ (k : Int) < (l.length : Int) := by omega
        have HT := Lib.hid (show V = true from by
          rw [HV.out]
          refine decide_eq_true ?_
          have h1 := HK.out
          obtain rfl : k = l.length := by omega
          rw [List.take_length, HLM.out, List.take_length] at h1
          exact h1)
        clear HK
        go_wp2_with fail
        go_ret
        exact ⟨by rw [HT.out]; rfl, q, rfl⟩
  · have z0 : ((l.length : Int) != (m.length : Int)) = true := by simp; omega
    have HF := Lib.hid (show V = false from by rw [HV.out]; exact decide_eq_false fun e => hlm (by rw [e]))
    clear hlm
    go_enter Tryz.func55, Tryz.ntmps55
    go_wp2_with fail
    go_ret
    exact ⟨by rw [HF.out]; rfl, 0, rfl⟩
def eqP (p q : Pol) : Bool := decide (p = q)
set_option maxHeartbeats 2000000 in
set_option maxRecDepth 100000 in
theorem Equal_any (vp vq : Value) (p q : Pol) (w : World) (hp : PolyV w vp p) (hq : PolyV w vq q) (okp : okP p) (okq : okP q) :
    Calls Tryz.prog 23 #[vp, vq] w fun e w' => e = .returned (.bool (eqP p q)) ∧ Below w.heap.size w w' := by
  have hlp : (p.getD []).length ≤ 4611686018427387904 := by
    cases p with
    | none => simp
    | some l => have := okp.2.len okp.1; simp only [Option.getD_some]; omega
  have hlq : (q.getD []).length ≤ 4611686018427387904 := by
    cases q with
    | none => simp
    | some l => have := okq.2.len okq.1; simp only [Option.getD_some]; omega
  obtain ⟨A, c, rfl, h1⟩ := hp
  obtain ⟨A2, c2, rfl, h2⟩ := hq
  have HS := Lib.hid (fun (W : World) (hb : Below w.heap.size w W) => slEqual_any A A2 _ _ c c2 _ _ W (h1.below hb) (h2.below hb) rfl rfl hlp hlq)
  have hE : eqP p q = (p.isNone == q.isNone && eqL (p.getD []) (q.getD [])) := by
    unfold eqP eqL
    cases p <;> cases q <;> simp
  rw [hE]
  clear hE okp okq h1 h2 hlp hlq
  generalize p.isNone = b1 at *
  generalize q.isNone = b2 at *
  generalize eqL (p.getD []) (q.getD []) = E at *
  generalize (p.getD []).length = n at *
  generalize (q.getD []).length = n2 at *
  have hW : ∀ W, W = ((w.alloc (.cells #[.bool b1, .slice A n c] 38)).alloc (.cells #[.bool b2, .slice A2 n2 c2] 38)) → Arr W w.heap.size 38 [.bool b1, .slice A n c] ∧ Arr W (w.heap.size + 1) 38 [.bool b2, .slice A2 n2 c2] ∧ Below w.heap.size w W := by
    intro W hW
    subst hW
    exact ⟨(Arr.new _ _ [_, _]).alloc _, Arr.newAt (w.alloc _) _ [_, _] _ (by simp), ((Below.refl _ _).alloc (Nat.le_refl _) _).alloc (by simp) _⟩
  go_enter Tryz.func23, Tryz.ntmps23
  go_upto_region 1 with fail
  generalize ((w.alloc (.cells #[.bool b1, .slice A n c] 38)).alloc (.cells #[.bool b2, .slice A2 n2 c2] 38)) = w3 at hW ⊢
  obtain ⟨qp, qq, hb3⟩ := hW w3 rfl
  clear hW
  have y0 := qp.cell 0
  have y1 := qp.cell 1
  have x0 := qq.cell 0
  have x1 := qq.cell 1
  have HC := Lib.hid (HS.out w3 hb3)
  clear HS qp qq
  by_cases hb : b1 = b2
  · subst hb
    have z : (b1 == b1) = true := by simp
    go_wp2_with fail
    refine HC.out.mono ?_
    rintro e w4 ⟨rfl, q4, rfl⟩
    go_wp2_with fail
    go_ret
    exact ⟨by simp, bdrewN hb3 q4⟩
  · have z : (b1 == b2) = false := by simp [hb]
    go_wp2_with fail
    go_ret
    exact ⟨by rw [z]; rfl, hb3⟩
end Go.Proofs.YtbfggncmjdhapaaGreatDoor

namespace Go.Proofs.YtbfggncmjdhapaaGreatDoor
open Go.RowKit
set_option linter.unusedVariables false

/-- the state of Of's loop -/
structure FSt (w : World) (s : Value) (R : List (Int × Int)) (W : World) : Prop where
  own : OwnT (w.heap.size + 2) W s R
  rr : Arr W (w.heap.size + 1) 38 [.bool false, s]
  res : Arr W w.heap.size 38 [.bool false, .slice none 0 0]
  bel : Below w.heap.size w W
section
variable {w W W' : World} {s : Value} {R : List (Int × Int)}
theorem FSt.alloc (h : FSt w s R W) (o : Obj) : FSt w s R (W.alloc o) :=
  ⟨h.own.below ((Below.refl _ _).alloc (Nat.le_refl _) _), h.rr.alloc _, h.res.alloc _, h.bel.alloc h.bel.size _⟩
theorem FSt.app (h : FSt w s R W) {s' : Value} {m : Int × Int} (ho : OwnT (w.heap.size + 2) W' s' (R ++ [m])) (hg : Gr (w.heap.size + 2) W W' s.ownBlock) : Arr W' (w.heap.size + 1) 38 [.bool false, s] ∧ FSt w s' (R ++ [m]) (W'.setCell ⟨w.heap.size + 1, 1, none⟩ s') := by
  have a1 := h.own.apart h.rr (by decide)
  have a2 := h.own.apart h.res (by decide)
  have q1 : Arr W' (w.heap.size + 1) 38 [.bool false, s] := (hg.keep _ h.rr.lt a1).trans h.rr
  have q2 : Arr W' w.heap.size 38 [.bool false, .slice none 0 0] := (hg.keep _ h.res.lt a2).trans h.res
  exact ⟨q1, ho.far (p := ⟨w.heap.size + 1, 1, none⟩) (ho.apart q1 (by decide)) _, q1.set 1 _, q2.far (p := ⟨w.heap.size + 1, 1, none⟩) (show w.heap.size ≠ w.heap.size + 1 by omega) _, (h.bel.trans (hg.below.mono (by omega))).setCell (p := ⟨w.heap.size + 1, 1, none⟩) (show w.heap.size ≤ w.heap.size + 1 by omega) _⟩
end
set_option maxHeartbeats 2000000 in
set_option maxRecDepth 100000 in
theorem Of_any (low : Int) (vc : Value) (cs : List Int) (w : World) (hc : Ints w vc cs) (hl : cs.length ≤ 1000000) (hlo : -9223372036854775808 ≤ low ∧ low ≤ 9223372036854775807) :
    Calls Tryz.prog 19 #[.int .i64 low, vc] w fun e w' => ∃ v, e = .returned v ∧ PolyV w' v (ofP low cs) ∧ Below w.heap.size w w' := by
  have HC := Lib.hid (fun W (hb : Below w.heap.size w W) => hc.below hb)
  obtain ⟨A, c, rfl, _, _⟩ := hc
  obtain ⟨P, hP⟩ : ∃ P, P = ofP low cs := ⟨_, rfl⟩
  rw [← hP]
  have HP := Lib.hid hP
  clear hP
  have hst : FSt w (.slice none 0 0) [] ((w.alloc (.cells #[.bool false, .slice none 0 0] 38)).alloc (.cells #[.bool false, .slice none 0 0] 38)) :=
    ⟨OwnT.nil _ _, Arr.newAt (w.alloc _) _ [_, _] _ (by simp), (Arr.new _ _ [_, _]).alloc _, ((Below.refl _ _).alloc (Nat.le_refl _) _).alloc (by simp) _⟩
  go_enter Tryz.func19, Tryz.ntmps19
  go_upto_region 2 with fail
  generalize ((w.alloc (.cells #[.bool false, .slice none 0 0] 38)).alloc (.cells #[.bool false, .slice none 0 0] 38)) = w3 at hst ⊢
  go_wp2_with fail
  go_loopg [6, 7, 10] cs.length (fun gk s6 s7 s10 wr => ∃ (k : Nat) (s : Value), k ≤ cs.length ∧ gk = cs.length - k ∧ s10 = .int .i64 (k : Int) ∧ FSt w s (ofL low (cs.take k)) wr ∧ Hid (ofB low (cs.take k) = true))
  case atStart => exact ⟨0, _, Nat.zero_le _, rfl, rfl, hst, Lib.hid rfl⟩
  case round =>
    clear hst
    obtain ⟨k, s, hk, rfl, rfl, hst, HK⟩ := hrel
    by_cases hlt : k < cs.length
    · have z1 : (k : Int) < (cs.length : Int) := by omega
      obtain ⟨b, o, ⟨c', hv⟩, _, hcell⟩ := ints_atZ (HC.out wr hst.bel) hlt
      injection hv with hv1 hv2 hv3
      subst hv1 hv3
      clear hv2
      have hkl : (cs.take k).length = k := by simp; omega
      have HL := Lib.hid (ofL_snoc low (cs.take k) cs[k])
      have HB := Lib.hid (ofB_snoc low (cs.take k) cs[k])
      rw [← take_snocZ hlt, hkl] at HL HB
      have HBad := Lib.hid (fun (h : ofB low (cs.take (k + 1)) = false) => (show P = none from by rw [HP.out]; unfold ofP; rw [ofB_take h]; rfl))
      have hrl : (ofL low (cs.take k)).length ≤ 1000000 := by have := ofL_len low (cs.take k); omega
      generalize cs[k] = x at *
      generalize ofL low (cs.take k) = R at *
      have HST := Lib.hid hst
      obtain ⟨Ax, nx, cx, rfl⟩ := hst.own.form3
      by_cases hx : x = 0
      · have z2 : (x == 0) = true := by simp [hx]
        have HL2 := Lib.hid (show ofL low (cs.take (k + 1)) = R from by rw [HL.out, if_pos hx, List.append_nil])
        have HB2 := Lib.hid (show ofB low (cs.take (k + 1)) = true from by rw [HB.out, HK.out]; simp [hx])
        clear HL HB HBad hx hst
        go_wp2_with fail
        go_roundg (cs.length - (k + 1))
        case measure => omega
        case rel => exact ⟨k + 1, _, by omega, rfl, by go_num, by rw [HL2.out]; exact HST.out, HB2⟩
      · have z2 : (x == 0) = false := by simp [hx]
        have HL2 := Lib.hid (show ofL low (cs.take (k + 1)) = R ++ [(low + k, x)] from by rw [HL.out, if_neg hx])
        have HB2 := Lib.hid (show ofB low (cs.take (k + 1)) = (wiB x 1125899906842624 && wiB (low + k) 1048576) from by rw [HB.out, HK.out, z2]; rfl)
        clear HL HB hx
        have qr := hst.res
        have q1 := hst.rr
        have x0 := qr.cell 0
        have x1 := qr.cell 1
        have f0 := qr.frozen 0
        have f1 := qr.frozen 1
        have HRS := Lib.hid ((qr.set 0 (.bool true)).set 1 (.slice none 0 0))
        have HBE := Lib.hid ((hst.bel.setCell (p := ⟨w.heap.size, 0, none⟩) (Nat.le_refl _) (.bool true)).setCell (p := ⟨w.heap.size, 1, none⟩) (Nat.le_refl _) (.slice none 0 0))
        have y1 := q1.cell 1
        clear hst qr q1
        have HW1 := Lib.hid (fun W => within_any x 1125899906842624 W (by omega) (by omega))
        obtain ⟨W1, hW1⟩ : ∃ z, z = wiB x 1125899906842624 := ⟨_, rfl⟩
        rw [← hW1] at HW1 HB2
        clear hW1
        cases W1 with
        | false =>
          have HPN := Lib.hid (HBad.out (by rw [HB2.out]; rfl))
          clear HBad HB2 HL2
          go_wp2_with (go_at_call 38; refine (HW1.out _).mono ?_; rintro e w1 ⟨rfl, rfl⟩)
          refine bodyPost_ret (v := .agg #[.bool true, .slice none 0 0]) (results_c Tryz.results19 _ _ w.heap.size 38 _ _ rfl HRS.out Tryz.underlying38 rfl info_poly) rfl ?_
          exact ⟨_, rfl, by rw [HPN.out]; exact PolyV.big _, HBE.out⟩
        | true =>
          by_cases hgt : low > 1048576
          · have HPN := Lib.hid (HBad.out (by
              rw [HB2.out, Bool.true_and]
              unfold wiB
              exact decide_eq_false (by omega)))
            clear HBad HB2 HL2
            go_wp2_with (go_at_call 38; refine (HW1.out _).mono ?_; rintro e w1 ⟨rfl, rfl⟩)
            refine bodyPost_ret (v := .agg #[.bool true, .slice none 0 0]) (results_c Tryz.results19 _ _ w.heap.size 38 _ _ rfl HRS.out Tryz.underlying38 rfl info_poly) rfl ?_
            exact ⟨_, rfl, by rw [HPN.out]; exact PolyV.big _, HBE.out⟩
          · have HW2 := Lib.hid (fun W => within_any (low + k) 1048576 W (by omega) (by omega))
            obtain ⟨W2, hW2⟩ : ∃ z, z = wiB (low + k) 1048576 := ⟨_, rfl⟩
            have hex : W2 = true → -1048576 ≤ low + k ∧ low + k ≤ 1048576 := fun e => wiB_iff.1 (hW2.symm.trans e)
            rw [← hW2] at HW2 HB2
            clear hW2
            cases W2 with
            | false =>
              have HPN := Lib.hid (HBad.out (by rw [HB2.out]; rfl))
              clear HBad HB2 HL2 hex
              go_wp2_with fail
              refine (HW1.out _).mono ?_
              rintro e w1 ⟨rfl, rfl⟩
              clear HW1
              go_wp2_with fail
              refine (HW2.out _).mono ?_
              rintro e w1 ⟨rfl, rfl⟩
              clear HW2
              go_wp2_with fail
              refine bodyPost_ret (v := .agg #[.bool true, .slice none 0 0]) (results_c Tryz.results19 _ _ w.heap.size 38 _ _ rfl HRS.out Tryz.underlying38 rfl info_poly) rfl ?_
              exact ⟨_, rfl, by rw [HPN.out]; exact PolyV.big _, HBE.out⟩
            | true =>
              obtain ⟨hx1, hx2⟩ := hex rfl
              clear HBad hex
              go_wp2_with fail
              refine (HW1.out _).mono ?_
              rintro e w1 ⟨rfl, rfl⟩
              clear HW1
              go_wp2_with fail
              refine (HW2.out _).mono ?_
              rintro e w1 ⟨rfl, rfl⟩
              clear HW2
              have HUU := Lib.hid (Arr.new wr 76 [.int .i64 (low + k), .int .i64 x])
              have HSA := Lib.hid (HST.out.alloc (.cells #[.int .i64 (low + k), .int .i64 x] 76))
              have hszb : w.heap.size + 2 ≤ (wr.alloc (.cells #[.int .i64 (low + k), .int .i64 x] 76)).heap.size := by have := HST.out.rr.lt; simp; omega
              have HSZ := Lib.hid hszb
              clear hszb x0 x1 f0 f1
              have HRL := Lib.hid (show R.length ≤ 100000000 from by omega)
              go_wp2_with (at_builtin; refine wpList_appT rfl (.tmp 33) (.tmp 39) rfl rfl HSA.out.own (m := (low + k, x)) rfl HUU.out HRL.out HSZ.out ?_; intro v' w1 hown1 hgr1; obtain ⟨q1, h2⟩ := HSA.out.app hown1 hgr1; obtain ⟨Av, nv, cv, rfl⟩ := hown1.form3; have HN := Lib.hid h2; have f1 := q1.frozen 1; have yq := q1.cell 1; clear hown1 hgr1 q1 h2)
              go_roundg (cs.length - (k + 1))
              case measure => omega
              case rel => exact ⟨k + 1, _, by omega, rfl, by go_num, by rw [HL2.out]; exact HN.out, Lib.hid HB2.out⟩
    · have z1 : ¬ (k : Int) < (cs.length : Int) := by omega
      have hkk : cs.take k = cs := List.take_of_length_le (by omega)
      have HE := Lib.hid (show P = some (ofL low cs) from by
        rw [HP.out]; unfold ofP
        have := HK.out
        rw [hkk] at this
        rw [this]; rfl)
      rw [hkk] at hst
      have HV := Lib.hid hst
      obtain ⟨Ax, cx, rfl⟩ := hst.own.form
      have qr := hst.res
      have q1 := hst.rr
      have y0 := q1.cell 0
      have y1 := q1.cell 1
      have f0 := qr.frozen 0
      have f1 := qr.frozen 1
      have x0 := qr.cell 0
      have x1 := qr.cell 1
      have HRS := Lib.hid ((qr.set 0 (.bool false)).set 1 (.slice Ax (ofL low cs).length cx))
      have HPV := Lib.hid (PolyV.own hst.own)
      have HPB := Lib.hid ((HPV.out).box qr (.bool false) (.slice Ax (ofL low cs).length cx))
      have HBE := Lib.hid ((hst.bel.setCell (p := ⟨w.heap.size, 0, none⟩) (Nat.le_refl _) (.bool false)).setCell (p := ⟨w.heap.size, 1, none⟩) (Nat.le_refl _) (.slice Ax (ofL low cs).length cx))
      clear hst qr q1
      go_wp2_with fail
      refine bodyPost_ret (v := .agg #[.bool false, .slice Ax (ofL low cs).length cx]) (results_c Tryz.results19 _ _ w.heap.size 38 _ _ rfl HRS.out Tryz.underlying38 rfl info_poly) rfl ?_
      exact ⟨_, rfl, by rw [HE.out]; exact HPB.out, HBE.out⟩
end Go.Proofs.YtbfggncmjdhapaaGreatDoor

namespace Go.Proofs.YtbfggncmjdhapaaGreatDoor
open Go.RowKit
set_option linter.unusedVariables false

abbrev T1 := Int × Int
/-- the sum of the absolute values -/
def asum1 : List T1 → Nat
  | [] => 0
  | t :: l => t.2.natAbs + asum1 l
theorem asum1_append (l m : List T1) : asum1 (l ++ m) = asum1 l + asum1 m := by
  induction l with
  | nil => simp [asum1]
  | cons t l ih => rw [List.cons_append, asum1, asum1, ih]; omega
theorem asum1_map (s : T1) (m : List T1) : asum1 (m.map fun t => (s.1 + t.1, s.2 * t.2)) = s.2.natAbs * asum1 m := by
  induction m with
  | nil => simp [asum1]
  | cons t m ih => rw [List.map_cons, asum1, asum1, ih, Int.natAbs_mul, Nat.mul_add]
theorem asum1_prs (l m : List T1) : asum1 (prs l m) = asum1 l * asum1 m := by
  induction l with
  | nil => simp [prs, asum1]
  | cons s l ih => rw [prs, asum1_append, asum1_map, ih, asum1, Nat.add_mul]
theorem cf_asum (l : List T1) (e : Int) : (cf l e).natAbs ≤ asum1 l := by
  induction l with
  | nil => simp [cf_nil, asum1]
  | cons t l ih => rw [show t :: l = [t] ++ l from rfl, cf_append, cf_one, List.singleton_append, asum1]; split <;> omega
/-- the exponents are at most N in absolute value -/
def Eb1 (N : Nat) (l : List T1) : Prop := ∀ t ∈ l, -(N : Int) ≤ t.1 ∧ t.1 ≤ N
theorem Eb1.append {N : Nat} {l m : List T1} (h : Eb1 N l) (k : Eb1 N m) : Eb1 N (l ++ m) := fun t ht => by
  rcases List.mem_append.1 ht with ht | ht
  · exact h t ht
  · exact k t ht
theorem Eb1.nil (N : Nat) : Eb1 N [] := fun t h => by cases h
theorem Eb1.mono {N M : Nat} {l : List T1} (h : Eb1 N l) (hm : N ≤ M) : Eb1 M l := fun t ht => by have := h t ht; omega
theorem Eb1.mul {N M : Nat} {l m : List T1} (h : Eb1 N l) (k : Eb1 M m) : Eb1 (N + M) (prs l m) := fun t ht => by
  obtain ⟨s, hs, u, hu, rfl⟩ := prs_mem ht
  have h1 := h s hs
  have h2 := k u hu
  simp only
  omega
/-- v is the polynomial that the terms L sum up to -/
def QL (w : World) (v : Value) (L : List T1) : Prop := ∃ l, PolyV w v (some l) ∧ Can l ∧ Lim l ∧ ∀ e, cf l e = cf L e
theorem QL.below {w w' : World} {v : Value} {L : List T1} (h : QL w v L) (hb : Below w.heap.size w w') : QL w' v L := by
  obtain ⟨l, h1, h2⟩ := h
  exact ⟨l, h1.below hb, h2⟩
theorem QL.congr {w : World} {v : Value} {L M : List T1} (h : QL w v L) (hg : ∀ e, cf L e = cf M e) : QL w v M := by
  obtain ⟨l, h1, h2, h3, h4⟩ := h
  exact ⟨l, h1, h2, h3, fun e => (h4 e).trans (hg e)⟩
theorem QL.form {w : World} {v : Value} {L : List T1} (h : QL w v L) : ∃ (A : Option Addr) (n c : Nat), v = .agg #[.bool false, .slice A n c] := by
  obtain ⟨l, h1, _⟩ := h
  obtain ⟨b, A, n, c, e, j, _⟩ := h1.parts
  exact ⟨A, n, c, by rw [e, j]; rfl⟩
theorem QL.zero (w : World) : QL w (.agg #[.bool false, .slice none 0 0]) [] := ⟨[], PolyV.zero w, Can.nil, Lim.nil, fun e => rfl⟩
theorem QL.box {w : World} {v : Value} {L : List T1} {g : Nat} {t : TypeId} {b : Bool} {A : Option Addr} {n c : Nat} (h : QL w v L) (hg : Arr w g t [.bool b, .slice A n c]) (u1 u2 : Value) : QL ((w.setCell ⟨g, 0, none⟩ u1).setCell ⟨g, 1, none⟩ u2) v L := by
  obtain ⟨l, h1, h2⟩ := h
  exact ⟨l, h1.box hg u1 u2, h2⟩
def QLR (L : List T1) (w : World) (e : Ending) (w' : World) : Prop := ∃ v, e = .returned v ∧ Below w.heap.size w w' ∧ QL w' v L
theorem TermQ (c x : Int) (w : World) (h1 : -1125899906842624 ≤ c) (h2 : c ≤ 1125899906842624) (h0 : c ≠ 0) (h3 : -1048576 ≤ x) (h4 : x ≤ 1048576) : Calls Tryz.prog 18 #[.int .i64 c, .int .i64 x] w (QLR [(x, c)] w) :=
  (Term_any c x w h0 h1 h2 h3 h4).mono fun e w' ⟨v, he, hv, hb⟩ => ⟨v, he, hb, [(x, c)], hv, ⟨by unfold Srt; simp, by simpa using h0⟩, ⟨by simp; omega, by simp; omega⟩, fun e => rfl⟩
theorem AddQ (vp vq : Value) (L M : List T1) (w : World) (hp : QL w vp L) (hq : QL w vq M) (hb : asum1 L + asum1 M ≤ 1125899906842624) : Calls Tryz.prog 42 #[vp, vq] w (QLR (L ++ M) w) := by
  obtain ⟨p, hp, cp, lp, ep⟩ := hp
  obtain ⟨q, hq, cq, lq, eq⟩ := hq
  refine (Add_any vp vq (some p) (some q) w hp hq ⟨cp, lp⟩ ⟨cq, lq⟩).mono fun e w' ⟨v, r, he, hv, hr, hbel⟩ => ?_
  obtain ⟨l, rfl, h1, h2, h3⟩ := CombP.some hr (fun e => by rw [ep, eq]; have := cf_asum L e; have := cf_asum M e; omega)
  exact ⟨v, he, hbel, l, hv, h1, h2, fun e => by rw [h3, ep, eq, cf_append]⟩
theorem MulQ {N M : Nat} (vp vq : Value) (L K : List T1) (w : World) (hp : QL w vp L) (hq : QL w vq K) (hb : asum1 L * asum1 K ≤ 1125899906842624) (eN : Eb1 N L) (eM : Eb1 M K) (hN : N + M ≤ 1048576) : Calls Tryz.prog 21 #[vp, vq] w (QLR (prs L K) w) := by
  obtain ⟨p, hp, cp, lp, ep⟩ := hp
  obtain ⟨q, hq, cq, lq, eq⟩ := hq
  refine (Mul_any vp vq (some p) (some q) w hp hq ⟨cp, lp⟩ ⟨cq, lq⟩).mono fun e w' ⟨v, r, he, hv, hr, hbel⟩ => ?_
  have h0 : ∀ e, cv p q e = cf (prs L K) e := fun e => by rw [cf_prs]; exact cv_congr ep eq e
  obtain ⟨l, rfl, h1, h2, h3⟩ := MulP.some hr (fun e => by rw [h0]; have := cf_asum (prs L K) e; rw [asum1_prs] at this; omega) (fun s hs t ht => by
    obtain ⟨a, ha, e1⟩ := cf_ne (l := L) (e := s.1) (by rw [← ep]; exact cp.ne hs)
    obtain ⟨b, hb2, e2⟩ := cf_ne (l := K) (e := t.1) (by rw [← eq]; exact cq.ne ht)
    have h1 := eN a ha
    have h2 := eM b hb2
    rw [e1] at h1
    rw [e2] at h2
    omega)
  exact ⟨v, he, hbel, l, hv, h1, h2, fun e => by rw [h3, h0]⟩
theorem EqualQ (vp vq : Value) (L M : List T1) (w : World) (hp : QL w vp L) (hq : QL w vq M) (hFG : ∀ e, cf L e = cf M e) : Calls Tryz.prog 23 #[vp, vq] w fun e w' => e = .returned (.bool true) ∧ Below w.heap.size w w' := by
  obtain ⟨p, hp, cp, lp, ep⟩ := hp
  obtain ⟨q, hq, cq, lq, eq⟩ := hq
  refine (Equal_any vp vq (some p) (some q) w hp hq ⟨cp, lp⟩ ⟨cq, lq⟩).mono fun e w' ⟨he, hbel⟩ => ⟨?_, hbel⟩
  have : p = q := cp.ext cq (fun e => by rw [ep, eq, hFG])
  rw [he, show eqP (some p) (some q) = true from by rw [this]; exact decide_eq_true rfl]
end Go.Proofs.YtbfggncmjdhapaaGreatDoor

namespace Go.Proofs.YtbfggncmjdhapaaGreatDoor
open Go.RowKit
set_option linter.unusedVariables false

section
variable {P : Program} {ops : Array Oper} {Q : Exit → Act → World → Prop}
/-- the guard of an operation is met -/
def gOk (ops : Array Oper) (o : Oper) (b : Act) : Prop := match o.guard with
  | none => True
  | some (j, want) => ∃ d : Nat, (ops[j]?.bind (·.dst)) = some d ∧ b.tmps[d]?.getD undef = .bool want
theorem gOk.wanted {o : Oper} {b : Act} (h : gOk ops o b) : Region.wanted o (yielded ops b.tmps) = true := by
  unfold gOk at h
  unfold Region.wanted
  cases hg : o.guard with
  | none => rfl
  | some p =>
    obtain ⟨j, want⟩ := p
    rw [hg] at h
    obtain ⟨d, hd, hv⟩ := h
    have hv2 : b.tmps[d]? = some (.bool want) := by
      cases ht : b.tmps[d]? with
      | none => rw [ht] at hv; simp [undef] at hv
      | some u => rw [ht] at hv; simp at hv; rw [hv]
    show (yielded ops b.tmps j == some want) = true
    unfold yielded
    rw [hd, Option.bind_some, hv2]
    simp
theorem wpOp_met {i : Nat} {o : Oper} {a : Act} {w : World} {K : Act → World → Prop} (h : ops[i]? = some o) (hg : Region.wanted o (yielded ops a.tmps) = true) (hw : o.wp P a w K Q) : wpOp P ops Q i K a w := by
  unfold wpOp
  simp only [h, hg, if_true]
  exact .inl hw
/-- the region by facts, all guards met -/
theorem wp_region_facts2G {id : Nat} {l : List Oper} {a : Act} {w : World} (hm : P.follows .mixedOrders = true) (hd : apartD (dstOf l.toArray) = true) (hb : backD l.toArray = true) (hn : inD a.tmps.size (dstOf l.toArray) = true)
    (I : (Nat → Bool) → (Nat → Value) → World → Prop)
    (h0 : I (fun _ => false) (fun j => slotV a ((dstOf l.toArray).getD (j - 0) none)) w.drew)
    (hstep : AllOps (fun i o => ∀ D x w (b : Act), I D x w → D i = false → (∀ j ∈ deps o, D j = true) → (∀ j, D j = true → ∀ k ∈ depsAt l.toArray j, D k = true) → (∀ t : Nat, b.tmps[t]?.getD undef = look (dstOf l.toArray) x a t) → gOk l.toArray o b ∧ o.wp P b w (StepPost I D x i b o.dst) NoQ) 0 l)
    (hend : ∀ D x w, I D x w → (∀ i, i < l.length → D i = true) → Q .normal (putAll (dstOf l.toArray) 0 x a) w) : (Code.region id l.toArray true).wp P Q a w := by
  refine wp_region_facts2 hm hd hb I h0 (fun i o ho D x w hI hD hdep hcl => ?_) (fun D x w hI h => hend D x w hI (by simpa using h))
  have ho' : l[i]? = some o := by simpa using ho
  have := hstep.get _ _ i o ho' D x w (putAll (dstOf l.toArray) 0 x a)
  rw [Nat.zero_add] at this
  have h2 := this hI hD hdep hcl (fun t => by
    rw [← Array.getD_eq_getD_getElem?, putAll_look _ _ _ _ _ hd hn]
    unfold look
    simp only [Nat.zero_add])
  exact wpOp_met ho h2.1.wanted (wp_noQ h2.2)
end
section
variable {P : Program} {Q : Exit → Act → World → Prop}
theorem wp_region_phiG {id : Nat} {l : List Oper} {a : Act} {w0 : World} (hm : P.follows .mixedOrders = true) (hd : apartD (dstOf l.toArray) = true) (hb : backD l.toArray = true) (hn : inD a.tmps.size (dstOf l.toArray) = true)
    (Φ : Nat → Value → World → Prop) (hΦ : ∀ i v w w', Φ i v w → Below w.heap.size w w' → Φ i v w')
    (hstep : AllOps (fun i o => ∀ (x : Nat → Value) w (b : Act), Below w0.heap.size w0 w → (∀ j ∈ deps o, Φ j (x j) w) → (∀ j, i ∈ depsAt l.toArray j → x j = slotV a ((dstOf l.toArray).getD (j - 0) none)) → (∀ t : Nat, b.tmps[t]?.getD undef = look (dstOf l.toArray) x a t) → gOk l.toArray o b ∧ o.wp P b w (PhiPost w Φ i b o.dst) NoQ) 0 l)
    (hend : ∀ (x : Nat → Value) w, Below w0.heap.size w0 w → (∀ i, i < l.length → Φ i (x i) w) → Q .normal (putAll (dstOf l.toArray) 0 x a) w) : (Code.region id l.toArray true).wp P Q a w0 := by
  refine wp_region_facts2G hm hd hb hn (PhiI w0 Φ (fun j => slotV a ((dstOf l.toArray).getD (j - 0) none))) ⟨(Below.refl _ _).drew, fun i h => Bool.noConfusion h, fun _ _ => rfl⟩ ?_ ?_
  · have key : ∀ k o, l[k]? = some o → ∀ D x W (b : Act), PhiI w0 Φ (fun j => slotV a ((dstOf l.toArray).getD (j - 0) none)) D x W → D k = false → (∀ j ∈ deps o, D j = true) → (∀ j, D j = true → ∀ q ∈ depsAt l.toArray j, D q = true) → (∀ t : Nat, b.tmps[t]?.getD undef = look (dstOf l.toArray) x a t) → gOk l.toArray o b ∧ o.wp P b W (StepPost (PhiI w0 Φ (fun j => slotV a ((dstOf l.toArray).getD (j - 0) none))) D x k b o.dst) NoQ := by
      intro k o ho D x W b hI hD hdep hcl hbt
      have hs := hstep.get _ _ k o ho x W b hI.1 (fun j hj => hI.2.1 j (hdep j hj)) (fun j hj => hI.2.2 j (by
        cases h : D j with
        | false => rfl
        | true =>
          rw [Nat.zero_add] at hj
          have := hcl j h k hj
          rw [hD] at this; cases this)) hbt
      rw [Nat.zero_add] at hs
      refine ⟨hs.1, Oper.wp_mono ?_ hs.2⟩
      rintro a' w' ⟨v, rfl, hb', hv⟩
      refine ⟨v, rfl, hI.1.trans (hb'.mono hI.1.size), fun i hi => ?_, fun i hi => ?_⟩
      · by_cases e : i = k
        · subst e; rw [upd_same]; exact hv
        · rw [upd_ne _ _ e] at hi ⊢
          exact hΦ i (x i) W w' (hI.2.1 i hi) hb'
      · by_cases e : i = k
        · subst e; rw [upd_same] at hi; cases hi
        · rw [upd_ne _ _ e] at hi ⊢
          exact hI.2.2 i hi
    have aux : ∀ (r : List Oper) (s : Nat), (∀ k, r[k]? = l[s + k]?) → AllOps (fun i o => ∀ D x W (b : Act), PhiI w0 Φ (fun j => slotV a ((dstOf l.toArray).getD (j - 0) none)) D x W → D i = false → (∀ j ∈ deps o, D j = true) → (∀ j, D j = true → ∀ q ∈ depsAt l.toArray j, D q = true) → (∀ t : Nat, b.tmps[t]?.getD undef = look (dstOf l.toArray) x a t) → gOk l.toArray o b ∧ o.wp P b W (StepPost (PhiI w0 Φ (fun j => slotV a ((dstOf l.toArray).getD (j - 0) none))) D x i b o.dst) NoQ) s r := by
      intro r
      induction r with
      | nil => intro s _; trivial
      | cons o r ih =>
        intro s hr
        refine ⟨key s o (by have := hr 0; simpa using this.symm), ih (s + 1) (fun k => ?_)⟩
        have := hr (k + 1)
        rw [List.getElem?_cons_succ] at this
        rw [this]; congr 1; omega
    exact aux l 0 (fun k => by rw [Nat.zero_add])
  · intro D x W hI hall
    exact hend x W hI.1 (fun i hi => hI.2.1 i (hall i hi))
end
end Go.Proofs.YtbfggncmjdhapaaGreatDoor
