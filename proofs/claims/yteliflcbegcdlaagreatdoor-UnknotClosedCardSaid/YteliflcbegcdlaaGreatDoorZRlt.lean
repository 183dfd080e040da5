/- The reference's Least (layer 42): the least translation. -/
import Derived.Test.YteliflcbegcdlaaGreatDoorZAdd
import Derived.Test.YteliflcbegcdlaaGreatDoorZRmin
import Derived.Deep.RegionHeld3
import Derived.Deep.DeepCutAuto
import Derived.IntWalk
namespace Go.Proofs.YteliflcbegcdlaaGreatDoor
open Go.RowKit
set_option linter.unusedVariables false
theorem heap_box {w : World} {t : TypeId} {a b : Value} (n : Nat) (h : n = w.heap.size) : Arr (w.alloc (.cells #[a, b] t)) n t [a, b] := Arr.newAt w t [a, b] n h
theorem IntsE.far {E : Nat → Prop} {w : World} {v : Value} {xs : List Int} (h : Ints w v xs) (hE : ∀ b, E b → w.heap.size ≤ b) : IntsE E w v xs :=
  fun W hW => h.keep fun b o hlt => by
    have := hW b (fun e => by have := hE b e; omega) hlt
    unfold World.cell?
    rw [this]
/-- the boxes of Least, and its best so far -/
structure LsW (n : Nat) (sX sO : Value) (w : World) (v0 v1 : Value) (p : Gd) (wr : World) : Prop where
  b0 : Arr wr n 24 [sX, sO]
  b1 : Arr wr (n + 1) 24 [.slice none 0 0, .slice none 0 0]
  b2 : Arr wr (n + 2) 24 [v0, v1]
  i1 : IntsE (fun b => b = n + 1 ∨ b = n + 2) wr v0 p.1
  i2 : IntsE (fun b => b = n + 1 ∨ b = n + 2) wr v1 p.2
  bel : Below n w wr
theorem LsW.below {n : Nat} {sX sO v0 v1 : Value} {w wr wr' : World} {p : Gd} (h : LsW n sX sO w v0 v1 p wr) (hb : Below wr.heap.size wr wr') : LsW n sX sO w v0 v1 p wr' :=
  ⟨h.b0.below hb h.b0.lt, h.b1.below hb h.b1.lt, h.b2.below hb h.b2.lt, h.i1.below hb, h.i2.below hb, h.bel.trans (hb.mono (by have := h.b0.lt; omega))⟩
set_option maxHeartbeats 4000000 in
set_option maxRecDepth 100000 in
theorem refLeast_any (vx vo : Value) (X O : List Int) (w : World) (hX : Ints w vx X) (hO : Ints w vo O) (hv : Vd X O) :
    Calls Tryz.prog 23 #[.agg #[vx, vo]] w fun e w' => ∃ A0 n0 c0 A1 n1 c1, e = .returned (.agg #[.slice A0 n0 c0, .slice A1 n1 c1]) ∧ Ints w' (.slice A0 n0 c0) (lstM (X, O)).1 ∧ Ints w' (.slice A1 n1 c1) (lstM (X, O)).2 ∧ Below w.heap.size w w' := by
  have h40 := hv.most
  have h2 := hv.two
  have HL := Lib.hid hv.len
  have HV := Lib.hid hv
  clear hv
  have hX0 := hX
  have hO0 := hO
  obtain ⟨A, c, rfl, hc, hh⟩ := hX
  obtain ⟨A', c', rfl, hc', hh'⟩ := hO
  clear hh hh'
  go_enter Tryz.func23, Tryz.ntmps23
  go_upto_region 1 with fail
  have hW : ∀ W, W = ((w.alloc (.cells #[.slice A X.length c, .slice A' O.length c'] 24)).alloc (.cells #[.slice none 0 0, .slice none 0 0] 24)) → Arr W w.heap.size 24 [.slice A X.length c, .slice A' O.length c'] ∧ Arr W (w.heap.size + 1) 24 [.slice none 0 0, .slice none 0 0] ∧ Below w.heap.size w W ∧ W.heap.size = w.heap.size + 2 := by
    rintro W rfl
    exact ⟨(Arr.new _ _ [_, _]).alloc _, Arr.newAt (w.alloc _) _ [_, _] _ (by simp), ((Below.refl _ _).alloc (Nat.le_refl _) _).alloc (by simp) _, by simp⟩
  generalize ((w.alloc (.cells #[.slice A X.length c, .slice A' O.length c'] 24)).alloc (.cells #[.slice none 0 0, .slice none 0 0] 24)) = w2 at hW ⊢
  obtain ⟨p0, p1, hb2, hs2⟩ := hW w2 rfl
  clear hW
  have y0 := p0.cell 0
  have y1 := p0.cell 1
  go_upto_region 2 with fail
  have hL1 : ∀ W, W = w2.alloc (.cells #[.slice A X.length c, .slice A' O.length c'] 24) → LsW w.heap.size (.slice A X.length c) (.slice A' O.length c') w (.slice A X.length c) (.slice A' O.length c') (X, O) W := by
    rintro W rfl
    have hb3 := (Below.refl w2.heap.size w2).alloc (Nat.le_refl _) (.cells #[.slice A X.length c, .slice A' O.length c'] 24)
    have hb := hb2.trans (hb3.mono hb2.size)
    exact ⟨p0.alloc _, p1.alloc _, heap_box _ hs2.symm, ((IntsE.far hX0 (fun b h => by omega)).below hb), ((IntsE.far hO0 (fun b h => by omega)).below hb), hb⟩
  generalize w2.alloc (.cells #[.slice A X.length c, .slice A' O.length c'] 24) = w3 at hL1 ⊢
  have L3 := Lib.hid (hL1 w3 rfl)
  have HSH := Lib.hid (fun (W : World) (hb : Below w.heap.size w W) (cc rr : Nat) (hc : cc < X.length) (hr : rr < X.length) => refShift_any (.slice A X.length c) (.slice A' O.length c') X O cc rr W (hX0.below hb) (hO0.below hb) HV.out hc hr)
  obtain ⟨n, hn⟩ : ∃ n, n = w.heap.size := ⟨_, rfl⟩
  rw [← hn] at L3 HSH ⊢
  clear hL1 p0 p1 hb2 hs2 y0 y1 hX0 hO0 hc hc'
  have HN := Lib.hid hn
  clear hn
  obtain ⟨m, hm⟩ : ∃ m, m = X.length := ⟨_, rfl⟩
  obtain ⟨m', hm'⟩ : ∃ m, m = O.length := ⟨_, rfl⟩
  rw [← hm] at L3 HSH h40 h2 ⊢
  rw [← hm'] at L3 HSH ⊢
  have HM := Lib.hid hm
  have HM' := Lib.hid hm'
  clear hm hm'
  go_wp2_with fail
  go_loopw [4] (fun i wr => ∃ (k : Nat) (A0 A1 : Option Addr) (n0 c0 n1 c1 : Nat) (p : Gd), k ≤ m ∧ i = .int .i64 k ∧ Hid (LsW n (.slice A m c) (.slice A' m' c') w (.slice A0 n0 c0) (.slice A1 n1 c1) p wr) ∧ Hid (LsU (X, O) k 0 p)) (fun i _ => m - (intOf i).toNat)
  case atStart => exact ⟨0, _, _, _, _, _, _, (X, O), Nat.zero_le _, rfl, L3, Lib.hid (LsU.start HV.out)⟩
  case round =>
    clear L3
    obtain ⟨k, A0, A1, n0, c0, n1, c1, p, hk, rfl, LW, LU⟩ := hrel
    have y0 := LW.out.b0.cell 0
    have y1 := LW.out.b0.cell 1
    by_cases hlt : k < m
    · have z1 : (k : Int) < (m : Int) := by omega
      go_wp2_with fail
      obtain ⟨wo, hwo⟩ : ∃ W, W = wr := ⟨_, rfl⟩
      go_loopw [5] (fun i wr => ∃ (r : Nat) (A0 A1 : Option Addr) (n0 c0 n1 c1 : Nat) (p : Gd), r ≤ m ∧ i = .int .i64 r ∧ Hid (LsW n (.slice A m c) (.slice A' m' c') w (.slice A0 n0 c0) (.slice A1 n1 c1) p wr) ∧ Hid (LsU (X, O) k r p)) (fun i _ => m - (intOf i).toNat)
      case atStart => exact ⟨0, _, _, _, _, _, _, p, Nat.zero_le _, rfl, LW, LU⟩
      case round =>
        clear y0 y1 LW LU hwo
        obtain ⟨r, A0, A1, n0, c0, n1, c1, p, hr, rfl, LW, LU⟩ := hrel
        have y0 := LW.out.b0.cell 0
        have y1 := LW.out.b0.cell 1
        by_cases hlt2 : r < m
        · have z2 : (r : Int) < (m : Int) := by omega
          have HS1 := Lib.hid (HSH.out _ LW.out.bel k r hlt hlt2)
          go_upto_region 9 with (go_at_call 41; refine HS1.out.mono ?_; rintro e w5 ⟨v5, rfl, ⟨gx, go, rfl, ng, lx, lo, ax, ao⟩, hb5⟩)
          have HT := Lib.hid (show cmpP (trl k r X, trl k r O) p < 0 → LsU (X, O) k (r + 1) (trl k r X, trl k r O) from fun h => LU.out.take (by show k < X.length; rw [← HM.out]; exact hlt) (by show r < X.length; rw [← HM.out]; exact hlt2) h)
          have HK := Lib.hid (show ¬ cmpP (trl k r X, trl k r O) p < 0 → LsU (X, O) k (r + 1) p from fun h => LU.out.keep h)
          have e1 : (trl k r X).length = m := (trl_length _ _ _).trans HM.out.symm
          have e2 : (trl k r O).length = m' := (trl_length _ _ _).trans HM'.out.symm
          have q1 : p.1.length = m := (LU.out.tl.len).trans HM.out.symm
          have q2 : p.2.length = m' := ((LU.out.tl.vd HV.out).len).symm.trans (q1.trans (HM.out.trans (HL.out.trans HM'.out.symm)))
          have hmm : m' = m := HM'.out.trans (HL.out.symm.trans HM.out.symm)
          have t1 : IntsE (fun b => b = n + 1 ∨ b = n + 2) w5 (.slice (some ⟨gx, 0, none⟩) (trl k r X).length (trl k r X).length) (trl k r X) := IntsE.of_arr ax (by have := LW.out.b2.lt; omega)
          have t2 : IntsE (fun b => b = n + 1 ∨ b = n + 2) w5 (.slice (some ⟨go, 0, none⟩) (trl k r O).length (trl k r O).length) (trl k r O) := IntsE.of_arr ao (by have := LW.out.b2.lt; omega)
          rw [e1] at t1 ⊢
          rw [e2] at t2 ⊢
          generalize trl k r X = T1 at *
          generalize trl k r O = T2 at *
          have L5 := LW.out.below hb5
          have hal := (Below.refl w5.heap.size w5).alloc (Nat.le_refl _) (.cells #[.slice (some ⟨gx, 0, none⟩) m m, .slice (some ⟨go, 0, none⟩) m' m'] 24)
          have L6 := Lib.hid (L5.below hal)
          have X6 := Lib.hid (heap_box (w := w5) (t := 24) (a := .slice (some ⟨gx, 0, none⟩) m m) (b := .slice (some ⟨go, 0, none⟩) m' m') w5.heap.size rfl)
          have T6 := Lib.hid (And.intro (t1.below hal) (t2.below hal))
          have HG := Lib.hid (show n + 2 < w5.heap.size from Nat.lt_of_lt_of_le LW.out.b2.lt hb5.size)
          generalize w5.alloc (.cells #[.slice (some ⟨gx, 0, none⟩) m m, .slice (some ⟨go, 0, none⟩) m' m'] 24) = w6 at L6 X6 T6 ⊢
          generalize w5.heap.size = g6 at X6 HG ⊢
          clear y0 y1 HS1 hb5 t1 t2 L5 hal ax ao LW
          have y0 := X6.out.cell 0
          have y1 := X6.out.cell 1
          have y2 := L6.out.b2.cell 0
          have y3 := L6.out.b2.cell 1
          obtain ⟨P1, P2⟩ := p
          dsimp only at q1 q2
          have HLS := Lib.hid (refLess_any _ _ _ _ T1 T2 P1 P2 w6 T6.out.1.ints T6.out.2.ints L6.out.i1.ints L6.out.i2.ints (by omega) (by omega) (by omega) (by omega))
          rw [cmpP_less (p := (T1, T2)) (q := (P1, P2)) (show T1.length = P1.length by omega)] at HLS
          generalize cmpP (T1, T2) (P1, P2) = d at HLS HT HK
          have Q12 := Lib.hid (And.intro q1 q2)
          clear e1 e2 q1 q2 hmm LU
          by_cases hd : d < 0
          · have HI3 := Lib.hid (HT.out hd)
            rw [decide_eq_true hd] at HLS
            clear HT HK hd
            go_wp2_with (go_at_call 42; refine HLS.out.mono ?_; rintro e w7 ⟨rfl, hb7⟩; have L7 := L6.out.below hb7; have z2 := L7.b2.frozen 0; have z3 := L7.b2.frozen 1; have z4 := L7.b2.cell 0; have z5 := L7.b2.cell 1; have u0 := (X6.out.below hb7 X6.out.lt).cell 0; have u1 := (X6.out.below hb7 X6.out.lt).cell 1; have hl7 := L7.b2.lt; have T7 := Lib.hid (And.intro (T6.out.1.below hb7) (T6.out.2.below hb7)); clear y0 y1 y2 y3 hb7)
            go_roundw
            case rel => exact ⟨r + 1, _, _, _, _, _, _, (T1, T2), by omega, by go_num, Lib.hid ⟨L7.b0.far2 (r := n + 2) (by omega), L7.b1.far2 (r := n + 2) (by omega), (L7.b2.set 0 (.slice (some ⟨gx, 0, none⟩) m m)).set 1 (.slice (some ⟨go, 0, none⟩) m' m'), T7.out.1.set2 (.inr rfl) _ _ _ _, T7.out.2.set2 (.inr rfl) _ _ _ _, bset2 (r := n + 2) L7.bel (by omega)⟩, HI3⟩
            case measure => simp [intOf]; omega
          · have HI3 := Lib.hid (HK.out hd)
            rw [decide_eq_false hd] at HLS
            clear HT HK hd
            go_wp2_with (go_at_call 42; refine HLS.out.mono ?_; rintro e w7 ⟨rfl, hb7⟩; have L7 := Lib.hid (L6.out.below hb7); clear y0 y1 y2 y3 hb7)
            go_roundw
            case rel => exact ⟨r + 1, _, _, _, _, _, _, (P1, P2), by omega, by go_num, L7, HI3⟩
            case measure => simp [intOf]; omega
        · obtain rfl : r = m := by omega
          have LU2 := Lib.hid (LU.out.row (by rw [← HM.out]; exact Nat.le_refl _))
          go_wp2_with fail
          go_roundw
          case rel => exact ⟨k + 1, _, _, _, _, _, _, p, by omega, by go_num, LW, LU2⟩
          case measure => simp [intOf]; omega
    · obtain rfl : k = m := by omega
      have z0 := LW.out.b2.cell 0
      have z1 := LW.out.b2.cell 1
      have x0 := LW.out.b1.cell 0
      have x1 := LW.out.b1.cell 1
      have x2 := LW.out.b1.frozen 0
      have x3 := LW.out.b1.frozen 1
      have hp := (show LsU (X, O) (X, O).1.length 0 p by show LsU (X, O) X.length 0 p; rw [← HM.out]; exact LU.out).fin HV.out
      subst hp
      clear LU
      obtain ⟨i1, i2⟩ := And.intro LW.out.i1 LW.out.i2
      have hres := Lib.hid ((LW.out.b1.set 0 (.slice A0 n0 c0)).set 1 (.slice A1 n1 c1))
      have I12 := Lib.hid (And.intro (i1.set2 (.inl rfl) 0 1 (.slice A0 n0 c0) (.slice A1 n1 c1)).ints (i2.set2 (.inl rfl) 0 1 (.slice A0 n0 c0) (.slice A1 n1 c1)).ints)
      have hl7 := LW.out.b1.lt
      clear i1 i2
      go_wp2_with fail
      refine bodyPost_ret (v := .agg #[.slice A0 n0 c0, .slice A1 n1 c1]) (results_c Tryz.results23 _ _ (n + 1) 24 _ _ rfl hres.out Tryz.underlying24 rfl info_grid) rfl ?_
      exact ⟨_, _, _, _, _, _, rfl, I12.out.1, I12.out.2, by rw [← HN.out]; exact bset2 (r := n + 1) LW.out.bel (by omega)⟩
end Go.Proofs.YteliflcbegcdlaaGreatDoor
