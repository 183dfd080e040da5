/- laurent.Of. -/
import Derived.Test.YtnmidhlghhephaaGreatDoorWwEql
import Derived.Test.YtnmidhlghhephaaGreatDoorWwPsu
import Derived.Test.YtnmidhlghhephaaGreatDoorWwPsh
namespace Go.Proofs.YtnmidhlghhephaaGreatDoor
open Go.RowKit
set_option linter.unusedVariables false
/-- the state of Of's loop -/
structure FSt (w : World) (s : Value) (R : List (Int × Int)) (W : World) : Prop where
  own : OwnT (w.heap.size + 2) W s R
  rr : Arr W (w.heap.size + 1) 34 [.bool false, s]
  res : Arr W w.heap.size 34 [.bool false, .slice none 0 0]
  bel : Below w.heap.size w W
section
variable {w W W' : World} {s : Value} {R : List (Int × Int)}
theorem FSt.alloc (h : FSt w s R W) (o : Obj) : FSt w s R (W.alloc o) :=
  ⟨h.own.below ((Below.refl _ _).alloc (Nat.le_refl _) _), h.rr.alloc _, h.res.alloc _, h.bel.alloc h.bel.size _⟩
theorem FSt.app (h : FSt w s R W) {s' : Value} {m : Int × Int} (ho : OwnT (w.heap.size + 2) W' s' (R ++ [m])) (hg : Gr (w.heap.size + 2) W W' s.ownBlock) : Arr W' (w.heap.size + 1) 34 [.bool false, s] ∧ FSt w s' (R ++ [m]) (W'.setCell ⟨w.heap.size + 1, 1, none⟩ s') := by
  have a1 := h.own.apart h.rr (by decide)
  have a2 := h.own.apart h.res (by decide)
  have q1 : Arr W' (w.heap.size + 1) 34 [.bool false, s] := (hg.keep _ h.rr.lt a1).trans h.rr
  have q2 : Arr W' w.heap.size 34 [.bool false, .slice none 0 0] := (hg.keep _ h.res.lt a2).trans h.res
  exact ⟨q1, ho.far (p := ⟨w.heap.size + 1, 1, none⟩) (ho.apart q1 (by decide)) _, q1.set 1 _, q2.far (p := ⟨w.heap.size + 1, 1, none⟩) (show w.heap.size ≠ w.heap.size + 1 by omega) _, (h.bel.trans (hg.below.mono (by omega))).setCell (p := ⟨w.heap.size + 1, 1, none⟩) (show w.heap.size ≤ w.heap.size + 1 by omega) _⟩
end
set_option maxHeartbeats 2000000 in
set_option maxRecDepth 100000 in
theorem Of_any (low : Int) (vc : Value) (cs : List Int) (w : World) (hc : Ints w vc cs) (hl : cs.length ≤ 1000000) (hlo : -9223372036854775808 ≤ low ∧ low ≤ 9223372036854775807) :
    Calls Tryz.prog 9 #[.int .i64 low, vc] w fun e w' => ∃ v, e = .returned v ∧ PolyV w' v (ofP low cs) ∧ Below w.heap.size w w' := by
  have HC := Lib.hid (fun W (hb : Below w.heap.size w W) => hc.below hb)
  obtain ⟨A, c, rfl, _, _⟩ := hc
  obtain ⟨P, hP⟩ : ∃ P, P = ofP low cs := ⟨_, rfl⟩
  rw [← hP]
  have HP := Lib.hid hP
  clear hP
  have hst : FSt w (.slice none 0 0) [] ((w.alloc (.cells #[.bool false, .slice none 0 0] 34)).alloc (.cells #[.bool false, .slice none 0 0] 34)) :=
    ⟨OwnT.nil _ _, Arr.newAt (w.alloc _) _ [_, _] _ (by simp), (Arr.new _ _ [_, _]).alloc _, ((Below.refl _ _).alloc (Nat.le_refl _) _).alloc (by simp) _⟩
  go_enter Tryz.func9, Tryz.ntmps9
  go_upto_region 2 with fail
  generalize ((w.alloc (.cells #[.bool false, .slice none 0 0] 34)).alloc (.cells #[.bool false, .slice none 0 0] 34)) = w3 at hst ⊢
  go_wp2_with fail
  go_loopg [6, 7, 10] cs.length (fun gk s6 s7 s10 wr => ∃ (k : Nat) (s : Value), k ≤ cs.length ∧ gk = cs.length - k ∧ s10 = .int .i64 (k : Int) ∧ FSt w s (ofL low (cs.take k)) wr ∧ Hid (ofB low (cs.take k) = true))
  case atStart => exact ⟨0, _, Nat.zero_le _, rfl, rfl, hst, Lib.hid rfl⟩
  case round =>
    clear hst
    obtain ⟨k, s, hk, rfl, rfl, hst, HK⟩ := hrel
    by_cases hlt : k < cs.length
    · have z1 : (k : Int) < (cs.length : Int) := by omega
      obtain ⟨b, o, ⟨c', hv⟩, _, hcell⟩ := ints_atZ (HC.out wr hst.bel) hlt
      injection hv with hv1 hv2 hv3
      subst hv1 hv3
      clear hv2
      have hkl : (cs.take k).length = k := by simp; omega
      have HL := Lib.hid (ofL_snoc low (cs.take k) cs[k])
      have HB := Lib.hid (ofB_snoc low (cs.take k) cs[k])
      rw [← take_snocZ hlt, hkl] at HL HB
      have HBad := Lib.hid (fun (h : ofB low (cs.take (k + 1)) = false) => (show P = none from by rw [HP.out]; unfold ofP; rw [ofB_take h]; rfl))
      have hrl : (ofL low (cs.take k)).length ≤ 1000000 := by have := ofL_len low (cs.take k); omega
      generalize cs[k] = x at *
      generalize ofL low (cs.take k) = R at *
      have HST := Lib.hid hst
      obtain ⟨Ax, nx, cx, rfl⟩ := hst.own.form3
      by_cases hx : x = 0
      · have z2 : (x == 0) = true := by simp [hx]
        have HL2 := Lib.hid (show ofL low (cs.take (k + 1)) = R from by rw [HL.out, if_pos hx, List.append_nil])
        have HB2 := Lib.hid (show ofB low (cs.take (k + 1)) = true from by rw [HB.out, HK.out]; simp [hx])
        clear HL HB HBad hx hst
        go_wp2_with fail
        go_roundg (cs.length - (k + 1))
        case measure => omega
        case rel => exact ⟨k + 1, _, by omega, rfl, by go_num, by rw [HL2.out]; exact HST.out, HB2⟩
      · have z2 : (x == 0) = false := by simp [hx]
        have HL2 := Lib.hid (show ofL low (cs.take (k + 1)) = R ++ [(low + k, x)] from by rw [HL.out, if_neg hx])
        have HB2 := Lib.hid (show ofB low (cs.take (k + 1)) = (wiB x 1125899906842624 && wiB (low + k) 1048576) from by rw [HB.out, HK.out, z2]; rfl)
        clear HL HB hx
        have qr := hst.res
        have q1 := hst.rr
        have x0 := qr.cell 0
        have x1 := qr.cell 1
        have f0 := qr.frozen 0
        have f1 := qr.frozen 1
        have HRS := Lib.hid ((qr.set 0 (.bool true)).set 1 (.slice none 0 0))
        have HBE := Lib.hid ((hst.bel.setCell (p := ⟨w.heap.size, 0, none⟩) (Nat.le_refl _) (.bool true)).setCell (p := ⟨w.heap.size, 1, none⟩) (Nat.le_refl _) (.slice none 0 0))
        have y1 := q1.cell 1
        clear hst qr q1
        have HW1 := Lib.hid (fun W => within_any x 1125899906842624 W (by omega) (by omega))
        obtain ⟨W1, hW1⟩ : ∃ z, z = wiB x 1125899906842624 := ⟨_, rfl⟩
        rw [← hW1] at HW1 HB2
        clear hW1
        cases W1 with
        | false =>
          have HPN := Lib.hid (HBad.out (by rw [HB2.out]; rfl))
          clear HBad HB2 HL2
          go_wp2_with (go_at_call 19; refine (HW1.out _).mono ?_; rintro e w1 ⟨rfl, rfl⟩)
          refine bodyPost_ret (v := .agg #[.bool true, .slice none 0 0]) (results_c Tryz.results9 _ _ w.heap.size 34 _ _ rfl HRS.out Tryz.underlying34 rfl info_poly) rfl ?_
          exact ⟨_, rfl, by rw [HPN.out]; exact PolyV.big _, HBE.out⟩
        | true =>
          by_cases hgt : low > 1048576
          · have HPN := Lib.hid (HBad.out (by
              rw [HB2.out, Bool.true_and]
              unfold wiB
              exact decide_eq_false (by omega)))
            clear HBad HB2 HL2
            go_wp2_with (go_at_call 19; refine (HW1.out _).mono ?_; rintro e w1 ⟨rfl, rfl⟩)
            refine bodyPost_ret (v := .agg #[.bool true, .slice none 0 0]) (results_c Tryz.results9 _ _ w.heap.size 34 _ _ rfl HRS.out Tryz.underlying34 rfl info_poly) rfl ?_
            exact ⟨_, rfl, by rw [HPN.out]; exact PolyV.big _, HBE.out⟩
          · have HW2 := Lib.hid (fun W => within_any (low + k) 1048576 W (by omega) (by omega))
            obtain ⟨W2, hW2⟩ : ∃ z, z = wiB (low + k) 1048576 := ⟨_, rfl⟩
            have hex : W2 = true → -1048576 ≤ low + k ∧ low + k ≤ 1048576 := fun e => wiB_iff.1 (hW2.symm.trans e)
            rw [← hW2] at HW2 HB2
            clear hW2
            cases W2 with
            | false =>
              have HPN := Lib.hid (HBad.out (by rw [HB2.out]; rfl))
              clear HBad HB2 HL2 hex
              go_wp2_with fail
              refine (HW1.out _).mono ?_
              rintro e w1 ⟨rfl, rfl⟩
              clear HW1
              go_wp2_with fail
              refine (HW2.out _).mono ?_
              rintro e w1 ⟨rfl, rfl⟩
              clear HW2
              go_wp2_with fail
              refine bodyPost_ret (v := .agg #[.bool true, .slice none 0 0]) (results_c Tryz.results9 _ _ w.heap.size 34 _ _ rfl HRS.out Tryz.underlying34 rfl info_poly) rfl ?_
              exact ⟨_, rfl, by rw [HPN.out]; exact PolyV.big _, HBE.out⟩
            | true =>
              obtain ⟨hx1, hx2⟩ := hex rfl
              clear HBad hex
              go_wp2_with fail
              refine (HW1.out _).mono ?_
              rintro e w1 ⟨rfl, rfl⟩
              clear HW1
              go_wp2_with fail
              refine (HW2.out _).mono ?_
              rintro e w1 ⟨rfl, rfl⟩
              clear HW2
              have HUU := Lib.hid (Arr.new wr 51 [.int .i64 (low + k), .int .i64 x])
              have HSA := Lib.hid (HST.out.alloc (.cells #[.int .i64 (low + k), .int .i64 x] 51))
              have hszb : w.heap.size + 2 ≤ (wr.alloc (.cells #[.int .i64 (low + k), .int .i64 x] 51)).heap.size := by have := HST.out.rr.lt; simp; omega
              have HSZ := Lib.hid hszb
              clear hszb x0 x1 f0 f1
              have HRL := Lib.hid (show R.length ≤ 100000000 from by omega)
              go_wp2_with (at_builtin; refine wpList_appT rfl (.tmp 33) (.tmp 39) rfl rfl HSA.out.own (m := (low + k, x)) rfl HUU.out HRL.out HSZ.out ?_; intro v' w1 hown1 hgr1; obtain ⟨q1, h2⟩ := HSA.out.app hown1 hgr1; obtain ⟨Av, nv, cv, rfl⟩ := hown1.form3; have HN := Lib.hid h2; have f1 := q1.frozen 1; have yq := q1.cell 1; clear hown1 hgr1 q1 h2)
              go_roundg (cs.length - (k + 1))
              case measure => omega
              case rel => exact ⟨k + 1, _, by omega, rfl, by go_num, by rw [HL2.out]; exact HN.out, Lib.hid HB2.out⟩
    · have z1 : ¬ (k : Int) < (cs.length : Int) := by omega
      have hkk : cs.take k = cs := List.take_of_length_le (by omega)
      have HE := Lib.hid (show P = some (ofL low cs) from by
        rw [HP.out]; unfold ofP
        have := HK.out
        rw [hkk] at this
        rw [this]; rfl)
      rw [hkk] at hst
      have HV := Lib.hid hst
      obtain ⟨Ax, cx, rfl⟩ := hst.own.form
      have qr := hst.res
      have q1 := hst.rr
      have y0 := q1.cell 0
      have y1 := q1.cell 1
      have f0 := qr.frozen 0
      have f1 := qr.frozen 1
      have x0 := qr.cell 0
      have x1 := qr.cell 1
      have HRS := Lib.hid ((qr.set 0 (.bool false)).set 1 (.slice Ax (ofL low cs).length cx))
      have HPV := Lib.hid (PolyV.own hst.own)
      have HPB := Lib.hid ((HPV.out).box qr (.bool false) (.slice Ax (ofL low cs).length cx))
      have HBE := Lib.hid ((hst.bel.setCell (p := ⟨w.heap.size, 0, none⟩) (Nat.le_refl _) (.bool false)).setCell (p := ⟨w.heap.size, 1, none⟩) (Nat.le_refl _) (.slice Ax (ofL low cs).length cx))
      clear hst qr q1
      go_wp2_with fail
      refine bodyPost_ret (v := .agg #[.bool false, .slice Ax (ofL low cs).length cx]) (results_c Tryz.results9 _ _ w.heap.size 34 _ _ rfl HRS.out Tryz.underlying34 rfl info_poly) rfl ?_
      exact ⟨_, rfl, by rw [HE.out]; exact HPB.out, HBE.out⟩
end Go.Proofs.YtnmidhlghhephaaGreatDoor
