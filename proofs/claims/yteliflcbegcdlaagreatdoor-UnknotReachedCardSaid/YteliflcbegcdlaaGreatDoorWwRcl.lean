/- The reference's Least (layer 42): the least translation. -/
/- The reference's columns, kind 1. -/
import Derived.Test.YteliflcbegcdlaaGreatDoorWwAdd
import Derived.Test.YteliflcbegcdlaaGreatDoorWwRmin
import Derived.Deep.RegionHeld3
import Derived.Deep.DeepCutAuto
import Derived.IntWalk
namespace Go.Proofs.YteliflcbegcdlaaGreatDoor
open Go.RowKit
set_option linter.unusedVariables false
theorem heap_box {w : World} {t : TypeId} {a b : Value} (n : Nat) (h : n = w.heap.size) : Arr (w.alloc (.cells #[a, b] t)) n t [a, b] := Arr.newAt w t [a, b] n h
theorem IntsE.far {E : Nat → Prop} {w : World} {v : Value} {xs : List Int} (h : Ints w v xs) (hE : ∀ b, E b → w.heap.size ≤ b) : IntsE E w v xs :=
  fun W hW => h.keep fun b o hlt => by
    have := hW b (fun e => by have := hE b e; omega) hlt
    unfold World.cell?
    rw [this]
/-- the boxes of Least, and its best so far -/
structure LsW (n : Nat) (sX sO : Value) (w : World) (v0 v1 : Value) (p : Gd) (wr : World) : Prop where
  b0 : Arr wr n 24 [sX, sO]
  b1 : Arr wr (n + 1) 24 [.slice none 0 0, .slice none 0 0]
  b2 : Arr wr (n + 2) 24 [v0, v1]
  i1 : IntsE (fun b => b = n + 1 ∨ b = n + 2) wr v0 p.1
  i2 : IntsE (fun b => b = n + 1 ∨ b = n + 2) wr v1 p.2
  bel : Below n w wr
theorem LsW.below {n : Nat} {sX sO v0 v1 : Value} {w wr wr' : World} {p : Gd} (h : LsW n sX sO w v0 v1 p wr) (hb : Below wr.heap.size wr wr') : LsW n sX sO w v0 v1 p wr' :=
  ⟨h.b0.below hb h.b0.lt, h.b1.below hb h.b1.lt, h.b2.below hb h.b2.lt, h.i1.below hb, h.i2.below hb, h.bel.trans (hb.mono (by have := h.b0.lt; omega))⟩
set_option maxHeartbeats 4000000 in
set_option maxRecDepth 100000 in
theorem refLeast_any (vx vo : Value) (X O : List Int) (w : World) (hX : Ints w vx X) (hO : Ints w vo O) (hv : Vd X O) :
    Calls Tryz.prog 23 #[.agg #[vx, vo]] w fun e w' => ∃ A0 n0 c0 A1 n1 c1, e = .returned (.agg #[.slice A0 n0 c0, .slice A1 n1 c1]) ∧ Ints w' (.slice A0 n0 c0) (lstM (X, O)).1 ∧ Ints w' (.slice A1 n1 c1) (lstM (X, O)).2 ∧ Below w.heap.size w w' := by
  have h40 := hv.most
  have h2 := hv.two
  have HL := Lib.hid hv.len
  have HV := Lib.hid hv
  clear hv
  have hX0 := hX
  have hO0 := hO
  obtain ⟨A, c, rfl, hc, hh⟩ := hX
  obtain ⟨A', c', rfl, hc', hh'⟩ := hO
  clear hh hh'
  go_enter Tryz.func23, Tryz.ntmps23
  go_upto_region 1 with fail
  have hW : ∀ W, W = ((w.alloc (.cells #[.slice A X.length c, .slice A' O.length c'] 24)).alloc (.cells #[.slice none 0 0, .slice none 0 0] 24)) → Arr W w.heap.size 24 [.slice A X.length c, .slice A' O.length c'] ∧ Arr W (w.heap.size + 1) 24 [.slice none 0 0, .slice none 0 0] ∧ Below w.heap.size w W ∧ W.heap.size = w.heap.size + 2 := by
    rintro W rfl
    exact ⟨(Arr.new _ _ [_, _]).alloc _, Arr.newAt (w.alloc _) _ [_, _] _ (by simp), ((Below.refl _ _).alloc (Nat.le_refl _) _).alloc (by simp) _, by simp⟩
  generalize ((w.alloc (.cells #[.slice A X.length c, .slice A' O.length c'] 24)).alloc (.cells #[.slice none 0 0, .slice none 0 0] 24)) = w2 at hW ⊢
  obtain ⟨p0, p1, hb2, hs2⟩ := hW w2 rfl
  clear hW
  have y0 := p0.cell 0
  have y1 := p0.cell 1
  go_upto_region 2 with fail
  have hL1 : ∀ W, W = w2.alloc (.cells #[.slice A X.length c, .slice A' O.length c'] 24) → LsW w.heap.size (.slice A X.length c) (.slice A' O.length c') w (.slice A X.length c) (.slice A' O.length c') (X, O) W := by
    rintro W rfl
    have hb3 := (Below.refl w2.heap.size w2).alloc (Nat.le_refl _) (.cells #[.slice A X.length c, .slice A' O.length c'] 24)
    have hb := hb2.trans (hb3.mono hb2.size)
    exact ⟨p0.alloc _, p1.alloc _, heap_box _ hs2.symm, ((IntsE.far hX0 (fun b h => by omega)).below hb), ((IntsE.far hO0 (fun b h => by omega)).below hb), hb⟩
  generalize w2.alloc (.cells #[.slice A X.length c, .slice A' O.length c'] 24) = w3 at hL1 ⊢
  have L3 := Lib.hid (hL1 w3 rfl)
  have HSH := Lib.hid (fun (W : World) (hb : Below w.heap.size w W) (cc rr : Nat) (hc : cc < X.length) (hr : rr < X.length) => refShift_any (.slice A X.length c) (.slice A' O.length c') X O cc rr W (hX0.below hb) (hO0.below hb) HV.out hc hr)
  obtain ⟨n, hn⟩ : ∃ n, n = w.heap.size := ⟨_, rfl⟩
  rw [← hn] at L3 HSH ⊢
  clear hL1 p0 p1 hb2 hs2 y0 y1 hX0 hO0 hc hc'
  have HN := Lib.hid hn
  clear hn
  obtain ⟨m, hm⟩ : ∃ m, m = X.length := ⟨_, rfl⟩
  obtain ⟨m', hm'⟩ : ∃ m, m = O.length := ⟨_, rfl⟩
  rw [← hm] at L3 HSH h40 h2 ⊢
  rw [← hm'] at L3 HSH ⊢
  have HM := Lib.hid hm
  have HM' := Lib.hid hm'
  clear hm hm'
  go_wp2_with fail
  go_loopw [4] (fun i wr => ∃ (k : Nat) (A0 A1 : Option Addr) (n0 c0 n1 c1 : Nat) (p : Gd), k ≤ m ∧ i = .int .i64 k ∧ Hid (LsW n (.slice A m c) (.slice A' m' c') w (.slice A0 n0 c0) (.slice A1 n1 c1) p wr) ∧ Hid (LsU (X, O) k 0 p)) (fun i _ => m - (intOf i).toNat)
  case atStart => exact ⟨0, _, _, _, _, _, _, (X, O), Nat.zero_le _, rfl, L3, Lib.hid (LsU.start HV.out)⟩
  case round =>
    clear L3
    obtain ⟨k, A0, A1, n0, c0, n1, c1, p, hk, rfl, LW, LU⟩ := hrel
    have y0 := LW.out.b0.cell 0
    have y1 := LW.out.b0.cell 1
    by_cases hlt : k < m
    · have z1 : (k : Int) < (m : Int) := by omega
      go_wp2_with fail
      obtain ⟨wo, hwo⟩ : ∃ W, W = wr := ⟨_, rfl⟩
      go_loopw [5] (fun i wr => ∃ (r : Nat) (A0 A1 : Option Addr) (n0 c0 n1 c1 : Nat) (p : Gd), r ≤ m ∧ i = .int .i64 r ∧ Hid (LsW n (.slice A m c) (.slice A' m' c') w (.slice A0 n0 c0) (.slice A1 n1 c1) p wr) ∧ Hid (LsU (X, O) k r p)) (fun i _ => m - (intOf i).toNat)
      case atStart => exact ⟨0, _, _, _, _, _, _, p, Nat.zero_le _, rfl, LW, LU⟩
      case round =>
        clear y0 y1 LW LU hwo
        obtain ⟨r, A0, A1, n0, c0, n1, c1, p, hr, rfl, LW, LU⟩ := hrel
        have y0 := LW.out.b0.cell 0
        have y1 := LW.out.b0.cell 1
        by_cases hlt2 : r < m
        · have z2 : (r : Int) < (m : Int) := by omega
          have HS1 := Lib.hid (HSH.out _ LW.out.bel k r hlt hlt2)
          go_upto_region 9 with (go_at_call 41; refine HS1.out.mono ?_; rintro e w5 ⟨v5, rfl, ⟨gx, go, rfl, ng, lx, lo, ax, ao⟩, hb5⟩)
          have HT := Lib.hid (show cmpP (trl k r X, trl k r O) p < 0 → LsU (X, O) k (r + 1) (trl k r X, trl k r O) from fun h => LU.out.take (by show k < X.length; rw [← HM.out]; exact hlt) (by show r < X.length; rw [← HM.out]; exact hlt2) h)
          have HK := Lib.hid (show ¬ cmpP (trl k r X, trl k r O) p < 0 → LsU (X, O) k (r + 1) p from fun h => LU.out.keep h)
          have e1 : (trl k r X).length = m := (trl_length _ _ _).trans HM.out.symm
          have e2 : (trl k r O).length = m' := (trl_length _ _ _).trans HM'.out.symm
          have q1 : p.1.length = m := (LU.out.tl.len).trans HM.out.symm
          have q2 : p.2.length = m' := ((LU.out.tl.vd HV.out).len).symm.trans (q1.trans (HM.out.trans (HL.out.trans HM'.out.symm)))
          have hmm : m' = m := HM'.out.trans (HL.out.symm.trans HM.out.symm)
          have t1 : IntsE (fun b => b = n + 1 ∨ b = n + 2) w5 (.slice (some ⟨gx, 0, none⟩) (trl k r X).length (trl k r X).length) (trl k r X) := IntsE.of_arr ax (by have := LW.out.b2.lt; omega)
          have t2 : IntsE (fun b => b = n + 1 ∨ b = n + 2) w5 (.slice (some ⟨go, 0, none⟩) (trl k r O).length (trl k r O).length) (trl k r O) := IntsE.of_arr ao (by have := LW.out.b2.lt; omega)
          rw [e1] at t1 ⊢
          rw [e2] at t2 ⊢
          generalize trl k r X = T1 at *
          generalize trl k r O = T2 at *
          have L5 := LW.out.below hb5
          have hal := (Below.refl w5.heap.size w5).alloc (Nat.le_refl _) (.cells #[.slice (some ⟨gx, 0, none⟩) m m, .slice (some ⟨go, 0, none⟩) m' m'] 24)
          have L6 := Lib.hid (L5.below hal)
          have X6 := Lib.hid (heap_box (w := w5) (t := 24) (a := .slice (some ⟨gx, 0, none⟩) m m) (b := .slice (some ⟨go, 0, none⟩) m' m') w5.heap.size rfl)
          have T6 := Lib.hid (And.intro (t1.below hal) (t2.below hal))
          have HG := Lib.hid (show n + 2 < w5.heap.size from Nat.lt_of_lt_of_le LW.out.b2.lt hb5.size)
          generalize w5.alloc (.cells #[.slice (some ⟨gx, 0, none⟩) m m, .slice (some ⟨go, 0, none⟩) m' m'] 24) = w6 at L6 X6 T6 ⊢
          generalize w5.heap.size = g6 at X6 HG ⊢
          clear y0 y1 HS1 hb5 t1 t2 L5 hal ax ao LW
          have y0 := X6.out.cell 0
          have y1 := X6.out.cell 1
          have y2 := L6.out.b2.cell 0
          have y3 := L6.out.b2.cell 1
          obtain ⟨P1, P2⟩ := p
          dsimp only at q1 q2
          have HLS := Lib.hid (refLess_any _ _ _ _ T1 T2 P1 P2 w6 T6.out.1.ints T6.out.2.ints L6.out.i1.ints L6.out.i2.ints (by omega) (by omega) (by omega) (by omega))
          rw [cmpP_less (p := (T1, T2)) (q := (P1, P2)) (show T1.length = P1.length by omega)] at HLS
          generalize cmpP (T1, T2) (P1, P2) = d at HLS HT HK
          have Q12 := Lib.hid (And.intro q1 q2)
          clear e1 e2 q1 q2 hmm LU
          by_cases hd : d < 0
          · have HI3 := Lib.hid (HT.out hd)
            rw [decide_eq_true hd] at HLS
            clear HT HK hd
            go_wp2_with (go_at_call 42; refine HLS.out.mono ?_; rintro e w7 ⟨rfl, hb7⟩; have L7 := L6.out.below hb7; have z2 := L7.b2.frozen 0; have z3 := L7.b2.frozen 1; have z4 := L7.b2.cell 0; have z5 := L7.b2.cell 1; have u0 := (X6.out.below hb7 X6.out.lt).cell 0; have u1 := (X6.out.below hb7 X6.out.lt).cell 1; have hl7 := L7.b2.lt; have T7 := Lib.hid (And.intro (T6.out.1.below hb7) (T6.out.2.below hb7)); clear y0 y1 y2 y3 hb7)
            go_roundw
            case rel => exact ⟨r + 1, _, _, _, _, _, _, (T1, T2), by omega, by go_num, Lib.hid ⟨L7.b0.far2 (r := n + 2) (by omega), L7.b1.far2 (r := n + 2) (by omega), (L7.b2.set 0 (.slice (some ⟨gx, 0, none⟩) m m)).set 1 (.slice (some ⟨go, 0, none⟩) m' m'), T7.out.1.set2 (.inr rfl) _ _ _ _, T7.out.2.set2 (.inr rfl) _ _ _ _, bset2 (r := n + 2) L7.bel (by omega)⟩, HI3⟩
            case measure => simp [intOf]; omega
          · have HI3 := Lib.hid (HK.out hd)
            rw [decide_eq_false hd] at HLS
            clear HT HK hd
            go_wp2_with (go_at_call 42; refine HLS.out.mono ?_; rintro e w7 ⟨rfl, hb7⟩; have L7 := Lib.hid (L6.out.below hb7); clear y0 y1 y2 y3 hb7)
            go_roundw
            case rel => exact ⟨r + 1, _, _, _, _, _, _, (P1, P2), by omega, by go_num, L7, HI3⟩
            case measure => simp [intOf]; omega
        · obtain rfl : r = m := by omega
          have LU2 := Lib.hid (LU.out.row (by rw [← HM.out]; exact Nat.le_refl _))
          go_wp2_with fail
          go_roundw
          case rel => exact ⟨k + 1, _, _, _, _, _, _, p, by omega, by go_num, LW, LU2⟩
          case measure => simp [intOf]; omega
    · obtain rfl : k = m := by omega
      have z0 := LW.out.b2.cell 0
      have z1 := LW.out.b2.cell 1
      have x0 := LW.out.b1.cell 0
      have x1 := LW.out.b1.cell 1
      have x2 := LW.out.b1.frozen 0
      have x3 := LW.out.b1.frozen 1
      have hp := (show LsU (X, O) (X, O).1.length 0 p by show LsU (X, O) X.length 0 p; rw [← HM.out]; exact LU.out).fin HV.out
      subst hp
      clear LU
      obtain ⟨i1, i2⟩ := And.intro LW.out.i1 LW.out.i2
      have hres := Lib.hid ((LW.out.b1.set 0 (.slice A0 n0 c0)).set 1 (.slice A1 n1 c1))
      have I12 := Lib.hid (And.intro (i1.set2 (.inl rfl) 0 1 (.slice A0 n0 c0) (.slice A1 n1 c1)).ints (i2.set2 (.inl rfl) 0 1 (.slice A0 n0 c0) (.slice A1 n1 c1)).ints)
      have hl7 := LW.out.b1.lt
      clear i1 i2
      go_wp2_with fail
      refine bodyPost_ret (v := .agg #[.slice A0 n0 c0, .slice A1 n1 c1]) (results_c Tryz.results23 _ _ (n + 1) 24 _ _ rfl hres.out Tryz.underlying24 rfl info_grid) rfl ?_
      exact ⟨_, _, _, _, _, _, rfl, I12.out.1, I12.out.2, by rw [← HN.out]; exact bset2 (r := n + 1) LW.out.bel (by omega)⟩
end Go.Proofs.YteliflcbegcdlaaGreatDoor

namespace Go.Proofs.YteliflcbegcdlaaGreatDoor
open Go.RowKit
set_option linter.unusedVariables false
theorem rotL_split (X : List Int) (h : 0 < X.length) : X.drop 1 ++ [X[0]] = rotL X := by
  cases X with
  | nil => simp at h
  | cons x X => simp [rotL]
/-- what holds in the region of the translation, whatever has come up -/
structure RcI (N : Nat) (w4 : World) (vx vo tx to_ : Value) (b1 o1 b2 o2 : Nat) (x0 o0 : Int) (X O : List Int) (D : Nat → Bool) (x : Nat → Value) (w : World) : Prop where
  bel : Below (N + 2) w4 w
  siz : w4.heap.size ≤ w.heap.size
  f0 : D 0 = true → ∃ g, x 0 = .slice (some ⟨g, 0, none⟩) 0 0
  f1 : D 1 = true → x 1 = .pointer (some ⟨N, 0, none⟩)
  f2 : D 2 = true → x 2 = vx
  f3 : D 3 = true → x 3 = tx
  f4 : D 4 = true → D 10 = false → OwnI 3 w4.heap.size w (x 4) (X.drop 1)
  f5 : D 5 = true → x 5 = .pointer (some ⟨N, 0, none⟩)
  f6 : D 6 = true → x 6 = vx
  f7 : D 7 = true → x 7 = .pointer (some ⟨b1, o1, none⟩)
  f8 : D 8 = true → x 8 = .int .i64 x0
  f9 : D 9 = true → D 10 = false → ∃ b, x 9 = .slice (some ⟨b, 0, none⟩) 1 1 ∧ Arr w b 3 [.int .i64 x0]
  f10 : D 10 = true → OwnI 3 w4.heap.size w (x 10) (rotL X)
  f11 : D 11 = true → ∃ g, x 11 = .slice (some ⟨g, 0, none⟩) 0 0
  f12 : D 12 = true → x 12 = .pointer (some ⟨N, 1, none⟩)
  f13 : D 13 = true → x 13 = vo
  f14 : D 14 = true → x 14 = to_
  f15 : D 15 = true → D 21 = false → OwnI 3 w4.heap.size w (x 15) (O.drop 1)
  f16 : D 16 = true → x 16 = .pointer (some ⟨N, 1, none⟩)
  f17 : D 17 = true → x 17 = vo
  f18 : D 18 = true → x 18 = .pointer (some ⟨b2, o2, none⟩)
  f19 : D 19 = true → x 19 = .int .i64 o0
  f20 : D 20 = true → D 21 = false → ∃ b, x 20 = .slice (some ⟨b, 0, none⟩) 1 1 ∧ Arr w b 3 [.int .i64 o0]
  f21 : D 21 = true → OwnI 3 w4.heap.size w (x 21) (rotL O)
  f22 : D 22 = true → x 22 = .agg #[x 10, x 21]
  res : (D 23 = false → Arr w (N + 2) 24 [.slice none 0 0, .slice none 0 0]) ∧ (D 23 = true → Arr w (N + 2) 24 [x 10, x 21])
  f24 : D 24 = true → x 24 = .int .i64 0
  lt : ltF [4, 9, 10, 15, 20, 21] D x w
  cr : crF [4, 9, 10] [15, 20, 21] D x
set_option maxRecDepth 100000 in
set_option maxHeartbeats 4000000 in
theorem refCols1 (vx vo : Value) (X O : List Int) (rows : Bool) (a v : Int) (w : World) (hX : Ints w vx X) (hO : Ints w vo O) (hv : Vd X O) (ha0 : 0 ≤ a) (ha1 : a < 1) (hv0 : 0 ≤ v) (hv1 : v < 1) :
    Calls Tryz.prog 66 #[.agg #[vx, vo], .agg #[.int .i64 1, .bool rows, .int .i64 a, .int .i64 v]] w fun e w' => ∃ g, e = .returned (.tuple #[g, .int .i64 0]) ∧ OwnG w.heap.size w' g (rotL X) (rotL O) ∧ Below w.heap.size w w' := by
  have hX0 := hX
  have hO0 := hO
  obtain ⟨A, c, rfl, hc, hh⟩ := hX
  obtain ⟨A', c', rfl, hc', hh'⟩ := hO
  clear hh hh'
  have h2 := hv.two
  have h40 := hv.most
  go_enter Tryz.func66, Tryz.ntmps66
  go_upto_region 6 with fail
  have hW : Arr (((((w.alloc (.cells #[.slice A X.length c, .slice A' O.length c'] 24)).alloc (.cells #[.int .i64 1, .bool rows, .int .i64 a, .int .i64 v] 85)).alloc (.cells #[.slice none 0 0, .slice none 0 0] 24)).alloc (.cells #[.int .i64 1, .int .i64 ((X.length : Int) - 1), .int .i64 (X.length : Int), .int .i64 ((X.length : Int) + 1)] 3)).alloc (.cells #[.int .i64 1, .int .i64 1, .int .i64 1, .int .i64 (2 * (X.length : Int))] 3)) w.heap.size 24 [.slice A X.length c, .slice A' O.length c'] ∧ Arr (((((w.alloc (.cells #[.slice A X.length c, .slice A' O.length c'] 24)).alloc (.cells #[.int .i64 1, .bool rows, .int .i64 a, .int .i64 v] 85)).alloc (.cells #[.slice none 0 0, .slice none 0 0] 24)).alloc (.cells #[.int .i64 1, .int .i64 ((X.length : Int) - 1), .int .i64 (X.length : Int), .int .i64 ((X.length : Int) + 1)] 3)).alloc (.cells #[.int .i64 1, .int .i64 1, .int .i64 1, .int .i64 (2 * (X.length : Int))] 3)) (w.heap.size + 1) 85 [.int .i64 1, .bool rows, .int .i64 a, .int .i64 v] ∧ Arr (((((w.alloc (.cells #[.slice A X.length c, .slice A' O.length c'] 24)).alloc (.cells #[.int .i64 1, .bool rows, .int .i64 a, .int .i64 v] 85)).alloc (.cells #[.slice none 0 0, .slice none 0 0] 24)).alloc (.cells #[.int .i64 1, .int .i64 ((X.length : Int) - 1), .int .i64 (X.length : Int), .int .i64 ((X.length : Int) + 1)] 3)).alloc (.cells #[.int .i64 1, .int .i64 1, .int .i64 1, .int .i64 (2 * (X.length : Int))] 3)) (w.heap.size + 2) 24 [.slice none 0 0, .slice none 0 0] ∧ Arr (((((w.alloc (.cells #[.slice A X.length c, .slice A' O.length c'] 24)).alloc (.cells #[.int .i64 1, .bool rows, .int .i64 a, .int .i64 v] 85)).alloc (.cells #[.slice none 0 0, .slice none 0 0] 24)).alloc (.cells #[.int .i64 1, .int .i64 ((X.length : Int) - 1), .int .i64 (X.length : Int), .int .i64 ((X.length : Int) + 1)] 3)).alloc (.cells #[.int .i64 1, .int .i64 1, .int .i64 1, .int .i64 (2 * (X.length : Int))] 3)) (w.heap.size + 3) 3 [.int .i64 1, .int .i64 ((X.length : Int) - 1), .int .i64 (X.length : Int), .int .i64 ((X.length : Int) + 1)] ∧ Arr (((((w.alloc (.cells #[.slice A X.length c, .slice A' O.length c'] 24)).alloc (.cells #[.int .i64 1, .bool rows, .int .i64 a, .int .i64 v] 85)).alloc (.cells #[.slice none 0 0, .slice none 0 0] 24)).alloc (.cells #[.int .i64 1, .int .i64 ((X.length : Int) - 1), .int .i64 (X.length : Int), .int .i64 ((X.length : Int) + 1)] 3)).alloc (.cells #[.int .i64 1, .int .i64 1, .int .i64 1, .int .i64 (2 * (X.length : Int))] 3)) (w.heap.size + 4) 3 [.int .i64 1, .int .i64 1, .int .i64 1, .int .i64 (2 * (X.length : Int))] ∧ Below w.heap.size w (((((w.alloc (.cells #[.slice A X.length c, .slice A' O.length c'] 24)).alloc (.cells #[.int .i64 1, .bool rows, .int .i64 a, .int .i64 v] 85)).alloc (.cells #[.slice none 0 0, .slice none 0 0] 24)).alloc (.cells #[.int .i64 1, .int .i64 ((X.length : Int) - 1), .int .i64 (X.length : Int), .int .i64 ((X.length : Int) + 1)] 3)).alloc (.cells #[.int .i64 1, .int .i64 1, .int .i64 1, .int .i64 (2 * (X.length : Int))] 3)) :=
    ⟨((((Arr.new _ _ [_, _]).alloc _).alloc _).alloc _).alloc _, (((Arr.newAt _ _ [_, _, _, _] _ (by simp)).alloc _).alloc _).alloc _, ((Arr.newAt _ _ [_, _] _ (by simp)).alloc _).alloc _, (Arr.newAt _ _ [_, _, _, _] _ (by simp)).alloc _, Arr.newAt _ _ [_, _, _, _] _ (by simp), by repeat (first | exact Below.refl _ _ | refine Below.alloc ?_ (by simp <;> omega) _)⟩
  generalize (((((w.alloc (.cells #[.slice A X.length c, .slice A' O.length c'] 24)).alloc (.cells #[.int .i64 1, .bool rows, .int .i64 a, .int .i64 v] 85)).alloc (.cells #[.slice none 0 0, .slice none 0 0] 24)).alloc (.cells #[.int .i64 1, .int .i64 ((X.length : Int) - 1), .int .i64 (X.length : Int), .int .i64 ((X.length : Int) + 1)] 3)).alloc (.cells #[.int .i64 1, .int .i64 1, .int .i64 1, .int .i64 (2 * (X.length : Int))] 3)) = w4 at hW ⊢
  obtain ⟨p0, p1, p2, p3, p4, hbw⟩ := hW
  have y0 := p0.cell 0
  have y1 := p0.cell 1
  have m0 := p1.cell 0
  have m2 := p1.cell 2
  have m3 := p1.cell 3
  have P0 := p3.cell 0
  have V0 := p4.cell 0
  have t1 : decide (a < 0) = false := by simp; omega
  have t2 : decide (1 ≤ a) = false := by simp; omega
  have t3 : decide (v < 0) = false := by simp; omega
  have t4 : decide (1 ≤ v) = false := by simp; omega
  go_quiet (fail)
  go_wp2_with fail
  clear m0 m2 m3 P0 V0 t1 t2 t3 t4 y0 y1
  have hW : Arr (w4.drewN nq) w.heap.size 24 [.slice A X.length c, .slice A' O.length c'] ∧ Arr (w4.drewN nq) (w.heap.size + 2) 24 [.slice none 0 0, .slice none 0 0] ∧ Below w.heap.size w (w4.drewN nq) ∧ w.heap.size + 5 ≤ (w4.drewN nq).heap.size := ⟨p0.drewN _, p2.drewN _, bdrewN hbw _, p4.lt⟩
  generalize w4.drewN nq = w5 at hW ⊢
  clear p0 p1 p2 p3 p4 hbw
  obtain ⟨p0, p2, hbw, hs5⟩ := hW
  have HLL := Lib.hid hv.len
  have lO : 2 ≤ O.length := by have := HLL.out; omega
  have lO' : O.length ≤ 40 := by have := HLL.out; omega
  obtain ⟨b1, o1, rfl, hb1, hc1⟩ := hX0.at_ (show 0 < X.length by omega)
  obtain ⟨b2, o2, rfl, hb2, hc2⟩ := hO0.at_ (show 0 < O.length by omega)
  rw [Nat.add_zero] at hc1 hc2
  have ERX := Lib.hid (rotL_split X (by omega))
  have ERO := Lib.hid (rotL_split O (by omega))
  generalize X[0] = x0 at *
  generalize O[0] = o0 at *
  have hcX := Lib.hid hc1
  have hcO := Lib.hid hc2
  have H4 := Lib.hid (fun (b' o' : Nat) (h : b' < w.heap.size) => hbw.cell (p := ⟨b', o', none⟩) h)
  have y0 := p0.cell 0
  have y1 := p0.cell 1
  obtain ⟨i0, hi0, hz0, hz1, hz2⟩ := info_parts info_int8
  have hX := hX0
  have hO := hO0
  clear hc1 hc2 hv hX0 hO0 ha0 ha1 hv0 hv1 p0
  go_cut [5] (fun s5 wx => s5 = .int .i64 0 ∧ ∃ A0 n0 c0 A1 n1 c1, Arr wx (w.heap.size + 2) 24 [.slice A0 n0 c0, .slice A1 n1 c1] ∧ OwnI 3 w.heap.size wx (.slice A0 n0 c0) (rotL X) ∧ OwnI 3 w.heap.size wx (.slice A1 n1 c1) (rotL O) ∧ Below w.heap.size w wx)
  case first =>
    refine wp_region_factsU (by kernel_rfl) (by kernel_rfl) (by kernel_rfl) (by kernel_rfl) (by kernel_rfl) (RcI w.heap.size w5 (.slice (some ⟨b1, o1, none⟩) X.length c) (.slice (some ⟨b2, o2, none⟩) O.length c') (.slice (some ⟨b1, o1 + 1, none⟩) (X.length - 1) (c - 1)) (.slice (some ⟨b2, o2 + 1, none⟩) (O.length - 1) (c' - 1)) b1 o1 b2 o2 x0 o0 X O) ?_ ⟨?_, ?_, ?_, ?_, ?_, ?_, ?_, ?_, ?_, ?_, ?_, ?_, ?_, ?_, ?_, ?_, ?_, ?_, ?_, ?_, ?_, ?_, ?_, ?_, ?_, trivial⟩ ?_
    · exact fun x => ⟨(Below.refl _ _).drew, Nat.le_refl _, by simp, by simp, by simp, by simp, by simp, by simp, by simp, by simp, by simp, by simp, by simp, by simp, by simp, by simp, by simp, by simp, by simp, by simp, by simp, by simp, by simp, by simp, by simp, ⟨fun _ => p2, by simp⟩, by simp, by simp [ltF], by simp [crF]⟩
    · intro D x w1 b hI hD hdep hcl hb
      refine wp_of_run (.slice (some ⟨w1.heap.size, 0, none⟩) 0 0) (w' := w1.alloc (.cells #[] 3)) ?_ ?_
      · clear hb hI hdep hcl hX hO hcX hcO H4 ERX ERO
        go_simp
      · have hg := Gro.alloc w1 (.cells #[] 3)
        exact ⟨hI.bel.trans (hg.bel.mono (by have := hI.siz; omega)), Nat.le_trans hI.siz hg.size, (fun _ => ⟨_, upd_same _ _ _⟩), (by have h9 := hI.f1; simpa [upd] using h9), (by have h9 := hI.f2; simpa [upd] using h9), (by have h9 := hI.f3; simpa [upd] using h9), (by have h9 := hI.f4; simp only [upd_ne _ _ (show (4 : Nat) ≠ 0 by decide), upd_ne _ _ (show (10 : Nat) ≠ 0 by decide)]; exact fun h h' => (h9 h h').gro hg (fun k _ => by simp)), (by have h9 := hI.f5; simpa [upd] using h9), (by have h9 := hI.f6; simpa [upd] using h9), (by have h9 := hI.f7; simpa [upd] using h9), (by have h9 := hI.f8; simpa [upd] using h9), (by have h9 := hI.f9; simp only [upd_ne _ _ (show (9 : Nat) ≠ 0 by decide), upd_ne _ _ (show (10 : Nat) ≠ 0 by decide)]; intro h h'; obtain ⟨b, e1, e2⟩ := h9 h h'; exact ⟨b, e1, e2.gro hg (by simp)⟩), (by have h9 := hI.f10; simp only [upd_ne _ _ (show (10 : Nat) ≠ 0 by decide)]; exact fun h => (h9 h).gro hg (fun k _ => by simp)), (by have h9 := hI.f11; simpa [upd] using h9), (by have h9 := hI.f12; simpa [upd] using h9), (by have h9 := hI.f13; simpa [upd] using h9), (by have h9 := hI.f14; simpa [upd] using h9), (by have h9 := hI.f15; simp only [upd_ne _ _ (show (15 : Nat) ≠ 0 by decide), upd_ne _ _ (show (21 : Nat) ≠ 0 by decide)]; exact fun h h' => (h9 h h').gro hg (fun k _ => by simp)), (by have h9 := hI.f16; simpa [upd] using h9), (by have h9 := hI.f17; simpa [upd] using h9), (by have h9 := hI.f18; simpa [upd] using h9), (by have h9 := hI.f19; simpa [upd] using h9), (by have h9 := hI.f20; simp only [upd_ne _ _ (show (20 : Nat) ≠ 0 by decide), upd_ne _ _ (show (21 : Nat) ≠ 0 by decide)]; intro h h'; obtain ⟨b, e1, e2⟩ := h9 h h'; exact ⟨b, e1, e2.gro hg (by simp)⟩), (by have h9 := hI.f21; simp only [upd_ne _ _ (show (21 : Nat) ≠ 0 by decide)]; exact fun h => (h9 h).gro hg (fun k _ => by simp)), (by have h9 := hI.f22; simpa [upd] using h9), (by have h9 := hI.res; simp only [upd_ne _ _ (show (10 : Nat) ≠ 0 by decide), upd_ne _ _ (show (21 : Nat) ≠ 0 by decide), upd_ne _ _ (show (23 : Nat) ≠ 0 by decide)]; exact ⟨fun h => (h9.1 h).gro hg (by simp), fun h => (h9.2 h).gro hg (by simp)⟩), (by have h9 := hI.f24; simpa [upd] using h9), hI.lt.skip hg.size (by decide), hI.cr.skip (by decide) (by decide)⟩
    · intro D x w1 b hI hD hdep hcl hb
      have e2 : b.tmps[2]?.getD undef = .pointer (some ⟨w.heap.size, 0, none⟩) := hb 2
      refine wp_of_run (.pointer (some ⟨w.heap.size, 0, none⟩)) (w' := w1) ?_ ?_
      · clear hb hI hdep hcl hX hO hcX hcO H4 ERX ERO
        go_simp
      · exact ⟨hI.bel, hI.siz, (by have h9 := hI.f0; simpa [upd] using h9), (fun _ => upd_same _ _ _), (by have h9 := hI.f2; simpa [upd] using h9), (by have h9 := hI.f3; simpa [upd] using h9), (by have h9 := hI.f4; simpa [upd] using h9), (by have h9 := hI.f5; simpa [upd] using h9), (by have h9 := hI.f6; simpa [upd] using h9), (by have h9 := hI.f7; simpa [upd] using h9), (by have h9 := hI.f8; simpa [upd] using h9), (by have h9 := hI.f9; simpa [upd] using h9), (by have h9 := hI.f10; simpa [upd] using h9), (by have h9 := hI.f11; simpa [upd] using h9), (by have h9 := hI.f12; simpa [upd] using h9), (by have h9 := hI.f13; simpa [upd] using h9), (by have h9 := hI.f14; simpa [upd] using h9), (by have h9 := hI.f15; simpa [upd] using h9), (by have h9 := hI.f16; simpa [upd] using h9), (by have h9 := hI.f17; simpa [upd] using h9), (by have h9 := hI.f18; simpa [upd] using h9), (by have h9 := hI.f19; simpa [upd] using h9), (by have h9 := hI.f20; simpa [upd] using h9), (by have h9 := hI.f21; simpa [upd] using h9), (by have h9 := hI.f22; simpa [upd] using h9), (by have h9 := hI.res; simpa [upd] using h9), (by have h9 := hI.f24; simpa [upd] using h9), hI.lt.skip (Nat.le_refl _) (by decide), hI.cr.skip (by decide) (by decide)⟩
    · intro D x w1 b hI hD hdep hcl hb
      have e2 : b.tmps[66]?.getD undef = .pointer (some ⟨w.heap.size, 0, none⟩) := (hb 66).trans (hI.f1 (hdep 1 (by decide)))
      have ec := (hI.bel.cell (p := ⟨w.heap.size, 0, none⟩) (by show w.heap.size < w.heap.size + 2; omega)).trans y0
      refine wp_of_run (.slice (some ⟨b1, o1, none⟩) X.length c) (w' := w1) ?_ ?_
      · clear hb hI hdep hcl hX hO hcX hcO H4 ERX ERO
        go_simp
      · exact ⟨hI.bel, hI.siz, (by have h9 := hI.f0; simpa [upd] using h9), (by have h9 := hI.f1; simpa [upd] using h9), (fun _ => upd_same _ _ _), (by have h9 := hI.f3; simpa [upd] using h9), (by have h9 := hI.f4; simpa [upd] using h9), (by have h9 := hI.f5; simpa [upd] using h9), (by have h9 := hI.f6; simpa [upd] using h9), (by have h9 := hI.f7; simpa [upd] using h9), (by have h9 := hI.f8; simpa [upd] using h9), (by have h9 := hI.f9; simpa [upd] using h9), (by have h9 := hI.f10; simpa [upd] using h9), (by have h9 := hI.f11; simpa [upd] using h9), (by have h9 := hI.f12; simpa [upd] using h9), (by have h9 := hI.f13; simpa [upd] using h9), (by have h9 := hI.f14; simpa [upd] using h9), (by have h9 := hI.f15; simpa [upd] using h9), (by have h9 := hI.f16; simpa [upd] using h9), (by have h9 := hI.f17; simpa [upd] using h9), (by have h9 := hI.f18; simpa [upd] using h9), (by have h9 := hI.f19; simpa [upd] using h9), (by have h9 := hI.f20; simpa [upd] using h9), (by have h9 := hI.f21; simpa [upd] using h9), (by have h9 := hI.f22; simpa [upd] using h9), (by have h9 := hI.res; simpa [upd] using h9), (by have h9 := hI.f24; simpa [upd] using h9), hI.lt.skip (Nat.le_refl _) (by decide), hI.cr.skip (by decide) (by decide)⟩
    · intro D x w1 b hI hD hdep hcl hb
      have e2 : b.tmps[67]?.getD undef = .slice (some ⟨b1, o1, none⟩) X.length c := (hb 67).trans (hI.f2 (hdep 2 (by decide)))
      have q1 : (c == 1) = false := by simp; omega
      have q2 : (1 : Int) ≤ (X.length : Int) := by omega
      have q3 : (X.length : Int) ≤ (c : Int) := by omega
      have q4 : (c : Nat) ≠ 1 := by omega
      refine wp_of_run (.slice (some ⟨b1, o1 + 1, none⟩) (X.length - 1) (c - 1)) (w' := w1) ?_ ?_
      · clear hb hI hdep hcl hX hO hcX hcO H4 ERX ERO
        go_simp
      · exact ⟨hI.bel, hI.siz, (by have h9 := hI.f0; simpa [upd] using h9), (by have h9 := hI.f1; simpa [upd] using h9), (by have h9 := hI.f2; simpa [upd] using h9), (fun _ => upd_same _ _ _), (by have h9 := hI.f4; simpa [upd] using h9), (by have h9 := hI.f5; simpa [upd] using h9), (by have h9 := hI.f6; simpa [upd] using h9), (by have h9 := hI.f7; simpa [upd] using h9), (by have h9 := hI.f8; simpa [upd] using h9), (by have h9 := hI.f9; simpa [upd] using h9), (by have h9 := hI.f10; simpa [upd] using h9), (by have h9 := hI.f11; simpa [upd] using h9), (by have h9 := hI.f12; simpa [upd] using h9), (by have h9 := hI.f13; simpa [upd] using h9), (by have h9 := hI.f14; simpa [upd] using h9), (by have h9 := hI.f15; simpa [upd] using h9), (by have h9 := hI.f16; simpa [upd] using h9), (by have h9 := hI.f17; simpa [upd] using h9), (by have h9 := hI.f18; simpa [upd] using h9), (by have h9 := hI.f19; simpa [upd] using h9), (by have h9 := hI.f20; simpa [upd] using h9), (by have h9 := hI.f21; simpa [upd] using h9), (by have h9 := hI.f22; simpa [upd] using h9), (by have h9 := hI.res; simpa [upd] using h9), (by have h9 := hI.f24; simpa [upd] using h9), hI.lt.skip (Nat.le_refl _) (by decide), hI.cr.skip (by decide) (by decide)⟩
    · intro D x w1 b hI hD hdep hcl hb
      obtain ⟨g, hg⟩ := hI.f0 (hdep 0 (by decide))
      have e1 : b.tmps[65]?.getD undef = .slice (some ⟨g, 0, none⟩) 0 0 := (hb 65).trans hg
      have e2 := (hb 68).trans (hI.f3 (hdep 3 (by decide)))
      have hT : Ints w1 (.slice (some ⟨b1, o1 + 1, none⟩) (X.length - 1) (c - 1)) (X.drop 1) := by
        have h1 := hX.keep (w' := w1) (fun b' o' hlt => (hI.bel.cell (p := ⟨b', o', none⟩) (by show b' < w.heap.size + 2; omega)).trans (H4.out b' o' hlt))
        have := h1.sub (lo := 1) (hi := X.length) (by omega) (Nat.le_refl _) (c - 1) (by omega) (some ⟨b1, o1 + 1, none⟩) (fun _ => by simp [Addr.add])
        rwa [List.take_length] at this
      refine wp_growI rfl (.tmp 65) (.tmp 68) 22 rfl Tryz.underlying22 hi0 hz0 hz1 hz2 g (by simpa [Act.eval] using e1) (by simpa [Act.eval] using e2) hT (by simp; omega) (by simp; omega) ?_
      intro v' w' hown hb'
      refine StepPost.mk' ?_
      have hg' := Gro.of_below hb'
      exact ⟨hI.bel.trans (hg'.bel.mono (by have := hI.siz; omega)), Nat.le_trans hI.siz hg'.size, (by have h9 := hI.f0; simpa [upd] using h9), (by have h9 := hI.f1; simpa [upd] using h9), (by have h9 := hI.f2; simpa [upd] using h9), (by have h9 := hI.f3; simpa [upd] using h9), (fun _ _ => by rw [upd_same]; exact hown.mono hI.siz), (by have h9 := hI.f5; simpa [upd] using h9), (by have h9 := hI.f6; simpa [upd] using h9), (by have h9 := hI.f7; simpa [upd] using h9), (by have h9 := hI.f8; simpa [upd] using h9), (by have h9 := hI.f9; simp only [upd_ne _ _ (show (9 : Nat) ≠ 4 by decide), upd_ne _ _ (show (10 : Nat) ≠ 4 by decide)]; intro h h'; obtain ⟨b, e1, e2⟩ := h9 h h'; exact ⟨b, e1, e2.gro hg' (by simp)⟩), (by have h9 := hI.f10; simp only [upd_ne _ _ (show (10 : Nat) ≠ 4 by decide)]; exact fun h => (h9 h).gro hg' (fun k _ => by simp)), (by have h9 := hI.f11; simpa [upd] using h9), (by have h9 := hI.f12; simpa [upd] using h9), (by have h9 := hI.f13; simpa [upd] using h9), (by have h9 := hI.f14; simpa [upd] using h9), (by have h9 := hI.f15; simp only [upd_ne _ _ (show (15 : Nat) ≠ 4 by decide), upd_ne _ _ (show (21 : Nat) ≠ 4 by decide)]; exact fun h h' => (h9 h h').gro hg' (fun k _ => by simp)), (by have h9 := hI.f16; simpa [upd] using h9), (by have h9 := hI.f17; simpa [upd] using h9), (by have h9 := hI.f18; simpa [upd] using h9), (by have h9 := hI.f19; simpa [upd] using h9), (by have h9 := hI.f20; simp only [upd_ne _ _ (show (20 : Nat) ≠ 4 by decide), upd_ne _ _ (show (21 : Nat) ≠ 4 by decide)]; intro h h'; obtain ⟨b, e1, e2⟩ := h9 h h'; exact ⟨b, e1, e2.gro hg' (by simp)⟩), (by have h9 := hI.f21; simp only [upd_ne _ _ (show (21 : Nat) ≠ 4 by decide)]; exact fun h => (h9 h).gro hg' (fun k _ => by simp)), (by have h9 := hI.f22; simpa [upd] using h9), (by have h9 := hI.res; simp only [upd_ne _ _ (show (10 : Nat) ≠ 4 by decide), upd_ne _ _ (show (21 : Nat) ≠ 4 by decide), upd_ne _ _ (show (23 : Nat) ≠ 4 by decide)]; exact ⟨fun h => (h9.1 h).gro hg' (by simp), fun h => (h9.2 h).gro hg' (by simp)⟩), (by have h9 := hI.f24; simpa [upd] using h9), hI.lt.upd hg'.size (fun k hk => (hown.lt k hk).2), hI.cr.left (w := w1) (fun p hp => hI.lt p (by revert hp; simp; omega)) (by decide) (fun k hk => .inl (hown.lt k hk).1)⟩
    · intro D x w1 b hI hD hdep hcl hb
      have e2 : b.tmps[2]?.getD undef = .pointer (some ⟨w.heap.size, 0, none⟩) := hb 2
      refine wp_of_run (.pointer (some ⟨w.heap.size, 0, none⟩)) (w' := w1) ?_ ?_
      · clear hb hI hdep hcl hX hO hcX hcO H4 ERX ERO
        go_simp
      · exact ⟨hI.bel, hI.siz, (by have h9 := hI.f0; simpa [upd] using h9), (by have h9 := hI.f1; simpa [upd] using h9), (by have h9 := hI.f2; simpa [upd] using h9), (by have h9 := hI.f3; simpa [upd] using h9), (by have h9 := hI.f4; simpa [upd] using h9), (fun _ => upd_same _ _ _), (by have h9 := hI.f6; simpa [upd] using h9), (by have h9 := hI.f7; simpa [upd] using h9), (by have h9 := hI.f8; simpa [upd] using h9), (by have h9 := hI.f9; simpa [upd] using h9), (by have h9 := hI.f10; simpa [upd] using h9), (by have h9 := hI.f11; simpa [upd] using h9), (by have h9 := hI.f12; simpa [upd] using h9), (by have h9 := hI.f13; simpa [upd] using h9), (by have h9 := hI.f14; simpa [upd] using h9), (by have h9 := hI.f15; simpa [upd] using h9), (by have h9 := hI.f16; simpa [upd] using h9), (by have h9 := hI.f17; simpa [upd] using h9), (by have h9 := hI.f18; simpa [upd] using h9), (by have h9 := hI.f19; simpa [upd] using h9), (by have h9 := hI.f20; simpa [upd] using h9), (by have h9 := hI.f21; simpa [upd] using h9), (by have h9 := hI.f22; simpa [upd] using h9), (by have h9 := hI.res; simpa [upd] using h9), (by have h9 := hI.f24; simpa [upd] using h9), hI.lt.skip (Nat.le_refl _) (by decide), hI.cr.skip (by decide) (by decide)⟩
    · intro D x w1 b hI hD hdep hcl hb
      have e2 : b.tmps[70]?.getD undef = .pointer (some ⟨w.heap.size, 0, none⟩) := (hb 70).trans (hI.f5 (hdep 5 (by decide)))
      have ec := (hI.bel.cell (p := ⟨w.heap.size, 0, none⟩) (by show w.heap.size < w.heap.size + 2; omega)).trans y0
      refine wp_of_run (.slice (some ⟨b1, o1, none⟩) X.length c) (w' := w1) ?_ ?_
      · clear hb hI hdep hcl hX hO hcX hcO H4 ERX ERO
        go_simp
      · exact ⟨hI.bel, hI.siz, (by have h9 := hI.f0; simpa [upd] using h9), (by have h9 := hI.f1; simpa [upd] using h9), (by have h9 := hI.f2; simpa [upd] using h9), (by have h9 := hI.f3; simpa [upd] using h9), (by have h9 := hI.f4; simpa [upd] using h9), (by have h9 := hI.f5; simpa [upd] using h9), (fun _ => upd_same _ _ _), (by have h9 := hI.f7; simpa [upd] using h9), (by have h9 := hI.f8; simpa [upd] using h9), (by have h9 := hI.f9; simpa [upd] using h9), (by have h9 := hI.f10; simpa [upd] using h9), (by have h9 := hI.f11; simpa [upd] using h9), (by have h9 := hI.f12; simpa [upd] using h9), (by have h9 := hI.f13; simpa [upd] using h9), (by have h9 := hI.f14; simpa [upd] using h9), (by have h9 := hI.f15; simpa [upd] using h9), (by have h9 := hI.f16; simpa [upd] using h9), (by have h9 := hI.f17; simpa [upd] using h9), (by have h9 := hI.f18; simpa [upd] using h9), (by have h9 := hI.f19; simpa [upd] using h9), (by have h9 := hI.f20; simpa [upd] using h9), (by have h9 := hI.f21; simpa [upd] using h9), (by have h9 := hI.f22; simpa [upd] using h9), (by have h9 := hI.res; simpa [upd] using h9), (by have h9 := hI.f24; simpa [upd] using h9), hI.lt.skip (Nat.le_refl _) (by decide), hI.cr.skip (by decide) (by decide)⟩
    · intro D x w1 b hI hD hdep hcl hb
      have e2 : b.tmps[71]?.getD undef = .slice (some ⟨b1, o1, none⟩) X.length c := (hb 71).trans (hI.f6 (hdep 6 (by decide)))
      have q2 : (0 : Int) < (X.length : Int) := by omega
      have q3 : 0 < X.length := by omega
      refine wp_of_run (.pointer (some ⟨b1, o1, none⟩)) (w' := w1) ?_ ?_
      · clear hb hI hdep hcl hX hO hcX hcO H4 ERX ERO
        go_simp
      · exact ⟨hI.bel, hI.siz, (by have h9 := hI.f0; simpa [upd] using h9), (by have h9 := hI.f1; simpa [upd] using h9), (by have h9 := hI.f2; simpa [upd] using h9), (by have h9 := hI.f3; simpa [upd] using h9), (by have h9 := hI.f4; simpa [upd] using h9), (by have h9 := hI.f5; simpa [upd] using h9), (by have h9 := hI.f6; simpa [upd] using h9), (fun _ => upd_same _ _ _), (by have h9 := hI.f8; simpa [upd] using h9), (by have h9 := hI.f9; simpa [upd] using h9), (by have h9 := hI.f10; simpa [upd] using h9), (by have h9 := hI.f11; simpa [upd] using h9), (by have h9 := hI.f12; simpa [upd] using h9), (by have h9 := hI.f13; simpa [upd] using h9), (by have h9 := hI.f14; simpa [upd] using h9), (by have h9 := hI.f15; simpa [upd] using h9), (by have h9 := hI.f16; simpa [upd] using h9), (by have h9 := hI.f17; simpa [upd] using h9), (by have h9 := hI.f18; simpa [upd] using h9), (by have h9 := hI.f19; simpa [upd] using h9), (by have h9 := hI.f20; simpa [upd] using h9), (by have h9 := hI.f21; simpa [upd] using h9), (by have h9 := hI.f22; simpa [upd] using h9), (by have h9 := hI.res; simpa [upd] using h9), (by have h9 := hI.f24; simpa [upd] using h9), hI.lt.skip (Nat.le_refl _) (by decide), hI.cr.skip (by decide) (by decide)⟩
    · intro D x w1 b hI hD hdep hcl hb
      have e2 : b.tmps[72]?.getD undef = .pointer (some ⟨b1, o1, none⟩) := (hb 72).trans (hI.f7 (hdep 7 (by decide)))
      have ec := ((hI.bel.cell (p := ⟨b1, o1, none⟩) (by show b1 < w.heap.size + 2; omega)).trans (H4.out b1 o1 (by omega))).trans hcX.out
      refine wp_of_run (.int .i64 x0) (w' := w1) ?_ ?_
      · clear hb hI hdep hcl hX hO hcX hcO H4 ERX ERO
        go_simp
      · exact ⟨hI.bel, hI.siz, (by have h9 := hI.f0; simpa [upd] using h9), (by have h9 := hI.f1; simpa [upd] using h9), (by have h9 := hI.f2; simpa [upd] using h9), (by have h9 := hI.f3; simpa [upd] using h9), (by have h9 := hI.f4; simpa [upd] using h9), (by have h9 := hI.f5; simpa [upd] using h9), (by have h9 := hI.f6; simpa [upd] using h9), (by have h9 := hI.f7; simpa [upd] using h9), (fun _ => upd_same _ _ _), (by have h9 := hI.f9; simpa [upd] using h9), (by have h9 := hI.f10; simpa [upd] using h9), (by have h9 := hI.f11; simpa [upd] using h9), (by have h9 := hI.f12; simpa [upd] using h9), (by have h9 := hI.f13; simpa [upd] using h9), (by have h9 := hI.f14; simpa [upd] using h9), (by have h9 := hI.f15; simpa [upd] using h9), (by have h9 := hI.f16; simpa [upd] using h9), (by have h9 := hI.f17; simpa [upd] using h9), (by have h9 := hI.f18; simpa [upd] using h9), (by have h9 := hI.f19; simpa [upd] using h9), (by have h9 := hI.f20; simpa [upd] using h9), (by have h9 := hI.f21; simpa [upd] using h9), (by have h9 := hI.f22; simpa [upd] using h9), (by have h9 := hI.res; simpa [upd] using h9), (by have h9 := hI.f24; simpa [upd] using h9), hI.lt.skip (Nat.le_refl _) (by decide), hI.cr.skip (by decide) (by decide)⟩
    · intro D x w1 b hI hD hdep hcl hb
      have e2 : b.tmps[73]?.getD undef = .int .i64 x0 := (hb 73).trans (hI.f8 (hdep 8 (by decide)))
      refine wp_of_run (.slice (some ⟨w1.heap.size, 0, none⟩) 1 1) (w' := w1.alloc (.cells #[.int .i64 x0] 3)) ?_ ?_
      · clear hb hI hdep hcl hX hO hcX hcO H4 ERX ERO
        go_simp
      · have hg := Gro.alloc w1 (.cells #[.int .i64 x0] 3)
        exact ⟨hI.bel.trans (hg.bel.mono (by have := hI.siz; omega)), Nat.le_trans hI.siz hg.size, (by have h9 := hI.f0; simpa [upd] using h9), (by have h9 := hI.f1; simpa [upd] using h9), (by have h9 := hI.f2; simpa [upd] using h9), (by have h9 := hI.f3; simpa [upd] using h9), (by have h9 := hI.f4; simp only [upd_ne _ _ (show (4 : Nat) ≠ 9 by decide), upd_ne _ _ (show (10 : Nat) ≠ 9 by decide)]; exact fun h h' => (h9 h h').gro hg (fun k _ => by simp)), (by have h9 := hI.f5; simpa [upd] using h9), (by have h9 := hI.f6; simpa [upd] using h9), (by have h9 := hI.f7; simpa [upd] using h9), (by have h9 := hI.f8; simpa [upd] using h9), (fun _ _ => ⟨_, upd_same _ _ _, Arr.new w1 3 [.int .i64 x0]⟩), (by have h9 := hI.f10; simp only [upd_ne _ _ (show (10 : Nat) ≠ 9 by decide)]; exact fun h => (h9 h).gro hg (fun k _ => by simp)), (by have h9 := hI.f11; simpa [upd] using h9), (by have h9 := hI.f12; simpa [upd] using h9), (by have h9 := hI.f13; simpa [upd] using h9), (by have h9 := hI.f14; simpa [upd] using h9), (by have h9 := hI.f15; simp only [upd_ne _ _ (show (15 : Nat) ≠ 9 by decide), upd_ne _ _ (show (21 : Nat) ≠ 9 by decide)]; exact fun h h' => (h9 h h').gro hg (fun k _ => by simp)), (by have h9 := hI.f16; simpa [upd] using h9), (by have h9 := hI.f17; simpa [upd] using h9), (by have h9 := hI.f18; simpa [upd] using h9), (by have h9 := hI.f19; simpa [upd] using h9), (by have h9 := hI.f20; simp only [upd_ne _ _ (show (20 : Nat) ≠ 9 by decide), upd_ne _ _ (show (21 : Nat) ≠ 9 by decide)]; intro h h'; obtain ⟨b, e1, e2⟩ := h9 h h'; exact ⟨b, e1, e2.gro hg (by simp)⟩), (by have h9 := hI.f21; simp only [upd_ne _ _ (show (21 : Nat) ≠ 9 by decide)]; exact fun h => (h9 h).gro hg (fun k _ => by simp)), (by have h9 := hI.f22; simpa [upd] using h9), (by have h9 := hI.res; simp only [upd_ne _ _ (show (10 : Nat) ≠ 9 by decide), upd_ne _ _ (show (21 : Nat) ≠ 9 by decide), upd_ne _ _ (show (23 : Nat) ≠ 9 by decide)]; exact ⟨fun h => (h9.1 h).gro hg (by simp), fun h => (h9.2 h).gro hg (by simp)⟩), (by have h9 := hI.f24; simpa [upd] using h9), hI.lt.upd hg.size (fun k hk => by simp [Value.ownBlock] at hk; simp; omega), hI.cr.left (w := w1) (fun p hp => hI.lt p (by revert hp; simp; omega)) (by decide) (fun k hk => .inl (by simp [Value.ownBlock] at hk; omega))⟩
    · intro D x w1 b hI hD hdep hcl hb
      have dz : D 4 = true := hdep 4 (by decide)
      have h4' := hI.f4 dz hD
      obtain ⟨b9, e9, a9⟩ := hI.f9 (hdep 9 (by decide)) hD
      have e1 : b.tmps[69]?.getD undef = x 4 := hb 69
      have e2 : b.tmps[74]?.getD undef = .slice (some ⟨b9, 0, none⟩) 1 1 := (hb 74).trans e9
      refine wp_appG (.tmp 69) (.tmp 74) 22 rfl Tryz.underlying22 hi0 hz0 hz1 hz2 (by simpa [Act.eval] using e1) h4' (ys := [x0]) (by simpa [Act.eval] using e2) (Ints.of_arr (xs := [x0]) a9) (by simp; omega) hI.siz ?_
      intro v' w' hown hg' hbk
      refine StepPost.mk' ?_
      have hzN : (x 4).ownBlock ≠ some (w.heap.size + 2) := fun h => by have := (h4'.lt _ h).1; omega
      have er : X.drop 1 ++ [x0] = rotL X := ERX.out
      exact ⟨hI.bel.trans (hg'.bel.mono (by have := hI.siz; omega)), Nat.le_trans hI.siz hg'.size, (by have h9 := hI.f0; simpa [upd] using h9), (by have h9 := hI.f1; simpa [upd] using h9), (by have h9 := hI.f2; simpa [upd] using h9), (by have h9 := hI.f3; simpa [upd] using h9), (fun _ h => by simp [upd] at h), (by have h9 := hI.f5; simpa [upd] using h9), (by have h9 := hI.f6; simpa [upd] using h9), (by have h9 := hI.f7; simpa [upd] using h9), (by have h9 := hI.f8; simpa [upd] using h9), (fun _ h => by simp [upd] at h), (fun _ => by rw [upd_same, ← er]; exact hown), (by have h9 := hI.f11; simpa [upd] using h9), (by have h9 := hI.f12; simpa [upd] using h9), (by have h9 := hI.f13; simpa [upd] using h9), (by have h9 := hI.f14; simpa [upd] using h9), (by have h9 := hI.f15; simp only [upd_ne _ _ (show (15 : Nat) ≠ 10 by decide), upd_ne _ _ (show (21 : Nat) ≠ 10 by decide)]; exact fun h h' => (h9 h h').gro hg' (fun k hk hk' => hI.cr 4 (by decide) 15 (by decide) dz h k hk' hk)), (by have h9 := hI.f16; simpa [upd] using h9), (by have h9 := hI.f17; simpa [upd] using h9), (by have h9 := hI.f18; simpa [upd] using h9), (by have h9 := hI.f19; simpa [upd] using h9), (by have h9 := hI.f20; simp only [upd_ne _ _ (show (20 : Nat) ≠ 10 by decide), upd_ne _ _ (show (21 : Nat) ≠ 10 by decide)]; intro h h'; obtain ⟨b, e1, e2⟩ := h9 h h'; exact ⟨b, e1, e2.gro hg' ((fun k hk hk' => hI.cr 4 (by decide) 20 (by decide) dz h k hk' hk) b (by rw [e1]; rfl))⟩), (by have h9 := hI.f21; simp only [upd_ne _ _ (show (21 : Nat) ≠ 10 by decide)]; exact fun h => (h9 h).gro hg' (fun k hk hk' => hI.cr 4 (by decide) 21 (by decide) dz h k hk' hk)), (fun h => absurd (hcl 22 (by simpa [upd] using h) 10 (by decide)) (by simp [hD])), (by have h9 := hI.res; simp only [upd_ne _ _ (show (21 : Nat) ≠ 10 by decide), upd_ne _ _ (show (23 : Nat) ≠ 10 by decide)]; exact ⟨fun h => (h9.1 h).gro hg' hzN, fun h => absurd (hcl 22 (hcl 23 h 22 (by decide)) 10 (by decide)) (by simp [hD])⟩), (by have h9 := hI.f24; simpa [upd] using h9), hI.lt.upd hg'.size (fun k hk => (hown.lt k hk).2), hI.cr.left (w := w1) (fun p hp => hI.lt p (by revert hp; simp; omega)) (by decide) (fun k hk => by rcases hbk with h | h; exact .inr ⟨4, by decide, dz, h ▸ hk⟩; exact .inl (by rw [h] at hk; injection hk with hk; omega))⟩
    · intro D x w1 b hI hD hdep hcl hb
      refine wp_of_run (.slice (some ⟨w1.heap.size, 0, none⟩) 0 0) (w' := w1.alloc (.cells #[] 3)) ?_ ?_
      · clear hb hI hdep hcl hX hO hcX hcO H4 ERX ERO
        go_simp
      · have hg := Gro.alloc w1 (.cells #[] 3)
        exact ⟨hI.bel.trans (hg.bel.mono (by have := hI.siz; omega)), Nat.le_trans hI.siz hg.size, (by have h9 := hI.f0; simpa [upd] using h9), (by have h9 := hI.f1; simpa [upd] using h9), (by have h9 := hI.f2; simpa [upd] using h9), (by have h9 := hI.f3; simpa [upd] using h9), (by have h9 := hI.f4; simp only [upd_ne _ _ (show (4 : Nat) ≠ 11 by decide), upd_ne _ _ (show (10 : Nat) ≠ 11 by decide)]; exact fun h h' => (h9 h h').gro hg (fun k _ => by simp)), (by have h9 := hI.f5; simpa [upd] using h9), (by have h9 := hI.f6; simpa [upd] using h9), (by have h9 := hI.f7; simpa [upd] using h9), (by have h9 := hI.f8; simpa [upd] using h9), (by have h9 := hI.f9; simp only [upd_ne _ _ (show (9 : Nat) ≠ 11 by decide), upd_ne _ _ (show (10 : Nat) ≠ 11 by decide)]; intro h h'; obtain ⟨b, e1, e2⟩ := h9 h h'; exact ⟨b, e1, e2.gro hg (by simp)⟩), (by have h9 := hI.f10; simp only [upd_ne _ _ (show (10 : Nat) ≠ 11 by decide)]; exact fun h => (h9 h).gro hg (fun k _ => by simp)), (fun _ => ⟨_, upd_same _ _ _⟩), (by have h9 := hI.f12; simpa [upd] using h9), (by have h9 := hI.f13; simpa [upd] using h9), (by have h9 := hI.f14; simpa [upd] using h9), (by have h9 := hI.f15; simp only [upd_ne _ _ (show (15 : Nat) ≠ 11 by decide), upd_ne _ _ (show (21 : Nat) ≠ 11 by decide)]; exact fun h h' => (h9 h h').gro hg (fun k _ => by simp)), (by have h9 := hI.f16; simpa [upd] using h9), (by have h9 := hI.f17; simpa [upd] using h9), (by have h9 := hI.f18; simpa [upd] using h9), (by have h9 := hI.f19; simpa [upd] using h9), (by have h9 := hI.f20; simp only [upd_ne _ _ (show (20 : Nat) ≠ 11 by decide), upd_ne _ _ (show (21 : Nat) ≠ 11 by decide)]; intro h h'; obtain ⟨b, e1, e2⟩ := h9 h h'; exact ⟨b, e1, e2.gro hg (by simp)⟩), (by have h9 := hI.f21; simp only [upd_ne _ _ (show (21 : Nat) ≠ 11 by decide)]; exact fun h => (h9 h).gro hg (fun k _ => by simp)), (by have h9 := hI.f22; simpa [upd] using h9), (by have h9 := hI.res; simp only [upd_ne _ _ (show (10 : Nat) ≠ 11 by decide), upd_ne _ _ (show (21 : Nat) ≠ 11 by decide), upd_ne _ _ (show (23 : Nat) ≠ 11 by decide)]; exact ⟨fun h => (h9.1 h).gro hg (by simp), fun h => (h9.2 h).gro hg (by simp)⟩), (by have h9 := hI.f24; simpa [upd] using h9), hI.lt.skip hg.size (by decide), hI.cr.skip (by decide) (by decide)⟩
    · intro D x w1 b hI hD hdep hcl hb
      have e2 : b.tmps[2]?.getD undef = .pointer (some ⟨w.heap.size, 0, none⟩) := hb 2
      refine wp_of_run (.pointer (some ⟨w.heap.size, 1, none⟩)) (w' := w1) ?_ ?_
      · clear hb hI hdep hcl hX hO hcX hcO H4 ERX ERO
        go_simp
      · exact ⟨hI.bel, hI.siz, (by have h9 := hI.f0; simpa [upd] using h9), (by have h9 := hI.f1; simpa [upd] using h9), (by have h9 := hI.f2; simpa [upd] using h9), (by have h9 := hI.f3; simpa [upd] using h9), (by have h9 := hI.f4; simpa [upd] using h9), (by have h9 := hI.f5; simpa [upd] using h9), (by have h9 := hI.f6; simpa [upd] using h9), (by have h9 := hI.f7; simpa [upd] using h9), (by have h9 := hI.f8; simpa [upd] using h9), (by have h9 := hI.f9; simpa [upd] using h9), (by have h9 := hI.f10; simpa [upd] using h9), (by have h9 := hI.f11; simpa [upd] using h9), (fun _ => upd_same _ _ _), (by have h9 := hI.f13; simpa [upd] using h9), (by have h9 := hI.f14; simpa [upd] using h9), (by have h9 := hI.f15; simpa [upd] using h9), (by have h9 := hI.f16; simpa [upd] using h9), (by have h9 := hI.f17; simpa [upd] using h9), (by have h9 := hI.f18; simpa [upd] using h9), (by have h9 := hI.f19; simpa [upd] using h9), (by have h9 := hI.f20; simpa [upd] using h9), (by have h9 := hI.f21; simpa [upd] using h9), (by have h9 := hI.f22; simpa [upd] using h9), (by have h9 := hI.res; simpa [upd] using h9), (by have h9 := hI.f24; simpa [upd] using h9), hI.lt.skip (Nat.le_refl _) (by decide), hI.cr.skip (by decide) (by decide)⟩
    · intro D x w1 b hI hD hdep hcl hb
      have e2 : b.tmps[77]?.getD undef = .pointer (some ⟨w.heap.size, 1, none⟩) := (hb 77).trans (hI.f12 (hdep 12 (by decide)))
      have ec := (hI.bel.cell (p := ⟨w.heap.size, 1, none⟩) (by show w.heap.size < w.heap.size + 2; omega)).trans y1
      refine wp_of_run (.slice (some ⟨b2, o2, none⟩) O.length c') (w' := w1) ?_ ?_
      · clear hb hI hdep hcl hX hO hcX hcO H4 ERX ERO
        go_simp
      · exact ⟨hI.bel, hI.siz, (by have h9 := hI.f0; simpa [upd] using h9), (by have h9 := hI.f1; simpa [upd] using h9), (by have h9 := hI.f2; simpa [upd] using h9), (by have h9 := hI.f3; simpa [upd] using h9), (by have h9 := hI.f4; simpa [upd] using h9), (by have h9 := hI.f5; simpa [upd] using h9), (by have h9 := hI.f6; simpa [upd] using h9), (by have h9 := hI.f7; simpa [upd] using h9), (by have h9 := hI.f8; simpa [upd] using h9), (by have h9 := hI.f9; simpa [upd] using h9), (by have h9 := hI.f10; simpa [upd] using h9), (by have h9 := hI.f11; simpa [upd] using h9), (by have h9 := hI.f12; simpa [upd] using h9), (fun _ => upd_same _ _ _), (by have h9 := hI.f14; simpa [upd] using h9), (by have h9 := hI.f15; simpa [upd] using h9), (by have h9 := hI.f16; simpa [upd] using h9), (by have h9 := hI.f17; simpa [upd] using h9), (by have h9 := hI.f18; simpa [upd] using h9), (by have h9 := hI.f19; simpa [upd] using h9), (by have h9 := hI.f20; simpa [upd] using h9), (by have h9 := hI.f21; simpa [upd] using h9), (by have h9 := hI.f22; simpa [upd] using h9), (by have h9 := hI.res; simpa [upd] using h9), (by have h9 := hI.f24; simpa [upd] using h9), hI.lt.skip (Nat.le_refl _) (by decide), hI.cr.skip (by decide) (by decide)⟩
    · intro D x w1 b hI hD hdep hcl hb
      have e2 : b.tmps[78]?.getD undef = .slice (some ⟨b2, o2, none⟩) O.length c' := (hb 78).trans (hI.f13 (hdep 13 (by decide)))
      have q1 : (c' == 1) = false := by simp; omega
      have q2 : (1 : Int) ≤ (O.length : Int) := by omega
      have q3 : (O.length : Int) ≤ (c' : Int) := by omega
      have q4 : (c' : Nat) ≠ 1 := by omega
      refine wp_of_run (.slice (some ⟨b2, o2 + 1, none⟩) (O.length - 1) (c' - 1)) (w' := w1) ?_ ?_
      · clear hb hI hdep hcl hX hO hcX hcO H4 ERX ERO
        go_simp
      · exact ⟨hI.bel, hI.siz, (by have h9 := hI.f0; simpa [upd] using h9), (by have h9 := hI.f1; simpa [upd] using h9), (by have h9 := hI.f2; simpa [upd] using h9), (by have h9 := hI.f3; simpa [upd] using h9), (by have h9 := hI.f4; simpa [upd] using h9), (by have h9 := hI.f5; simpa [upd] using h9), (by have h9 := hI.f6; simpa [upd] using h9), (by have h9 := hI.f7; simpa [upd] using h9), (by have h9 := hI.f8; simpa [upd] using h9), (by have h9 := hI.f9; simpa [upd] using h9), (by have h9 := hI.f10; simpa [upd] using h9), (by have h9 := hI.f11; simpa [upd] using h9), (by have h9 := hI.f12; simpa [upd] using h9), (by have h9 := hI.f13; simpa [upd] using h9), (fun _ => upd_same _ _ _), (by have h9 := hI.f15; simpa [upd] using h9), (by have h9 := hI.f16; simpa [upd] using h9), (by have h9 := hI.f17; simpa [upd] using h9), (by have h9 := hI.f18; simpa [upd] using h9), (by have h9 := hI.f19; simpa [upd] using h9), (by have h9 := hI.f20; simpa [upd] using h9), (by have h9 := hI.f21; simpa [upd] using h9), (by have h9 := hI.f22; simpa [upd] using h9), (by have h9 := hI.res; simpa [upd] using h9), (by have h9 := hI.f24; simpa [upd] using h9), hI.lt.skip (Nat.le_refl _) (by decide), hI.cr.skip (by decide) (by decide)⟩
    · intro D x w1 b hI hD hdep hcl hb
      obtain ⟨g, hg⟩ := hI.f11 (hdep 11 (by decide))
      have e1 : b.tmps[76]?.getD undef = .slice (some ⟨g, 0, none⟩) 0 0 := (hb 76).trans hg
      have e2 := (hb 79).trans (hI.f14 (hdep 14 (by decide)))
      have hT : Ints w1 (.slice (some ⟨b2, o2 + 1, none⟩) (O.length - 1) (c' - 1)) (O.drop 1) := by
        have h1 := hO.keep (w' := w1) (fun b' o' hlt => (hI.bel.cell (p := ⟨b', o', none⟩) (by show b' < w.heap.size + 2; omega)).trans (H4.out b' o' hlt))
        have := h1.sub (lo := 1) (hi := O.length) (by omega) (Nat.le_refl _) (c' - 1) (by omega) (some ⟨b2, o2 + 1, none⟩) (fun _ => by simp [Addr.add])
        rwa [List.take_length] at this
      refine wp_growI rfl (.tmp 76) (.tmp 79) 22 rfl Tryz.underlying22 hi0 hz0 hz1 hz2 g (by simpa [Act.eval] using e1) (by simpa [Act.eval] using e2) hT (by simp; omega) (by simp; omega) ?_
      intro v' w' hown hb'
      refine StepPost.mk' ?_
      have hg' := Gro.of_below hb'
      exact ⟨hI.bel.trans (hg'.bel.mono (by have := hI.siz; omega)), Nat.le_trans hI.siz hg'.size, (by have h9 := hI.f0; simpa [upd] using h9), (by have h9 := hI.f1; simpa [upd] using h9), (by have h9 := hI.f2; simpa [upd] using h9), (by have h9 := hI.f3; simpa [upd] using h9), (by have h9 := hI.f4; simp only [upd_ne _ _ (show (4 : Nat) ≠ 15 by decide), upd_ne _ _ (show (10 : Nat) ≠ 15 by decide)]; exact fun h h' => (h9 h h').gro hg' (fun k _ => by simp)), (by have h9 := hI.f5; simpa [upd] using h9), (by have h9 := hI.f6; simpa [upd] using h9), (by have h9 := hI.f7; simpa [upd] using h9), (by have h9 := hI.f8; simpa [upd] using h9), (by have h9 := hI.f9; simp only [upd_ne _ _ (show (9 : Nat) ≠ 15 by decide), upd_ne _ _ (show (10 : Nat) ≠ 15 by decide)]; intro h h'; obtain ⟨b, e1, e2⟩ := h9 h h'; exact ⟨b, e1, e2.gro hg' (by simp)⟩), (by have h9 := hI.f10; simp only [upd_ne _ _ (show (10 : Nat) ≠ 15 by decide)]; exact fun h => (h9 h).gro hg' (fun k _ => by simp)), (by have h9 := hI.f11; simpa [upd] using h9), (by have h9 := hI.f12; simpa [upd] using h9), (by have h9 := hI.f13; simpa [upd] using h9), (by have h9 := hI.f14; simpa [upd] using h9), (fun _ _ => by rw [upd_same]; exact hown.mono hI.siz), (by have h9 := hI.f16; simpa [upd] using h9), (by have h9 := hI.f17; simpa [upd] using h9), (by have h9 := hI.f18; simpa [upd] using h9), (by have h9 := hI.f19; simpa [upd] using h9), (by have h9 := hI.f20; simp only [upd_ne _ _ (show (20 : Nat) ≠ 15 by decide), upd_ne _ _ (show (21 : Nat) ≠ 15 by decide)]; intro h h'; obtain ⟨b, e1, e2⟩ := h9 h h'; exact ⟨b, e1, e2.gro hg' (by simp)⟩), (by have h9 := hI.f21; simp only [upd_ne _ _ (show (21 : Nat) ≠ 15 by decide)]; exact fun h => (h9 h).gro hg' (fun k _ => by simp)), (by have h9 := hI.f22; simpa [upd] using h9), (by have h9 := hI.res; simp only [upd_ne _ _ (show (10 : Nat) ≠ 15 by decide), upd_ne _ _ (show (21 : Nat) ≠ 15 by decide), upd_ne _ _ (show (23 : Nat) ≠ 15 by decide)]; exact ⟨fun h => (h9.1 h).gro hg' (by simp), fun h => (h9.2 h).gro hg' (by simp)⟩), (by have h9 := hI.f24; simpa [upd] using h9), hI.lt.upd hg'.size (fun k hk => (hown.lt k hk).2), hI.cr.right (w := w1) (fun p hp => hI.lt p (by revert hp; simp; omega)) (by decide) (fun k hk => .inl (hown.lt k hk).1)⟩
    · intro D x w1 b hI hD hdep hcl hb
      have e2 : b.tmps[2]?.getD undef = .pointer (some ⟨w.heap.size, 0, none⟩) := hb 2
      refine wp_of_run (.pointer (some ⟨w.heap.size, 1, none⟩)) (w' := w1) ?_ ?_
      · clear hb hI hdep hcl hX hO hcX hcO H4 ERX ERO
        go_simp
      · exact ⟨hI.bel, hI.siz, (by have h9 := hI.f0; simpa [upd] using h9), (by have h9 := hI.f1; simpa [upd] using h9), (by have h9 := hI.f2; simpa [upd] using h9), (by have h9 := hI.f3; simpa [upd] using h9), (by have h9 := hI.f4; simpa [upd] using h9), (by have h9 := hI.f5; simpa [upd] using h9), (by have h9 := hI.f6; simpa [upd] using h9), (by have h9 := hI.f7; simpa [upd] using h9), (by have h9 := hI.f8; simpa [upd] using h9), (by have h9 := hI.f9; simpa [upd] using h9), (by have h9 := hI.f10; simpa [upd] using h9), (by have h9 := hI.f11; simpa [upd] using h9), (by have h9 := hI.f12; simpa [upd] using h9), (by have h9 := hI.f13; simpa [upd] using h9), (by have h9 := hI.f14; simpa [upd] using h9), (by have h9 := hI.f15; simpa [upd] using h9), (fun _ => upd_same _ _ _), (by have h9 := hI.f17; simpa [upd] using h9), (by have h9 := hI.f18; simpa [upd] using h9), (by have h9 := hI.f19; simpa [upd] using h9), (by have h9 := hI.f20; simpa [upd] using h9), (by have h9 := hI.f21; simpa [upd] using h9), (by have h9 := hI.f22; simpa [upd] using h9), (by have h9 := hI.res; simpa [upd] using h9), (by have h9 := hI.f24; simpa [upd] using h9), hI.lt.skip (Nat.le_refl _) (by decide), hI.cr.skip (by decide) (by decide)⟩
    · intro D x w1 b hI hD hdep hcl hb
      have e2 : b.tmps[81]?.getD undef = .pointer (some ⟨w.heap.size, 1, none⟩) := (hb 81).trans (hI.f16 (hdep 16 (by decide)))
      have ec := (hI.bel.cell (p := ⟨w.heap.size, 1, none⟩) (by show w.heap.size < w.heap.size + 2; omega)).trans y1
      refine wp_of_run (.slice (some ⟨b2, o2, none⟩) O.length c') (w' := w1) ?_ ?_
      · clear hb hI hdep hcl hX hO hcX hcO H4 ERX ERO
        go_simp
      · exact ⟨hI.bel, hI.siz, (by have h9 := hI.f0; simpa [upd] using h9), (by have h9 := hI.f1; simpa [upd] using h9), (by have h9 := hI.f2; simpa [upd] using h9), (by have h9 := hI.f3; simpa [upd] using h9), (by have h9 := hI.f4; simpa [upd] using h9), (by have h9 := hI.f5; simpa [upd] using h9), (by have h9 := hI.f6; simpa [upd] using h9), (by have h9 := hI.f7; simpa [upd] using h9), (by have h9 := hI.f8; simpa [upd] using h9), (by have h9 := hI.f9; simpa [upd] using h9), (by have h9 := hI.f10; simpa [upd] using h9), (by have h9 := hI.f11; simpa [upd] using h9), (by have h9 := hI.f12; simpa [upd] using h9), (by have h9 := hI.f13; simpa [upd] using h9), (by have h9 := hI.f14; simpa [upd] using h9), (by have h9 := hI.f15; simpa [upd] using h9), (by have h9 := hI.f16; simpa [upd] using h9), (fun _ => upd_same _ _ _), (by have h9 := hI.f18; simpa [upd] using h9), (by have h9 := hI.f19; simpa [upd] using h9), (by have h9 := hI.f20; simpa [upd] using h9), (by have h9 := hI.f21; simpa [upd] using h9), (by have h9 := hI.f22; simpa [upd] using h9), (by have h9 := hI.res; simpa [upd] using h9), (by have h9 := hI.f24; simpa [upd] using h9), hI.lt.skip (Nat.le_refl _) (by decide), hI.cr.skip (by decide) (by decide)⟩
    · intro D x w1 b hI hD hdep hcl hb
      have e2 : b.tmps[82]?.getD undef = .slice (some ⟨b2, o2, none⟩) O.length c' := (hb 82).trans (hI.f17 (hdep 17 (by decide)))
      have q2 : (0 : Int) < (O.length : Int) := by omega
      have q3 : 0 < O.length := by omega
      refine wp_of_run (.pointer (some ⟨b2, o2, none⟩)) (w' := w1) ?_ ?_
      · clear hb hI hdep hcl hX hO hcX hcO H4 ERX ERO
        go_simp
      · exact ⟨hI.bel, hI.siz, (by have h9 := hI.f0; simpa [upd] using h9), (by have h9 := hI.f1; simpa [upd] using h9), (by have h9 := hI.f2; simpa [upd] using h9), (by have h9 := hI.f3; simpa [upd] using h9), (by have h9 := hI.f4; simpa [upd] using h9), (by have h9 := hI.f5; simpa [upd] using h9), (by have h9 := hI.f6; simpa [upd] using h9), (by have h9 := hI.f7; simpa [upd] using h9), (by have h9 := hI.f8; simpa [upd] using h9), (by have h9 := hI.f9; simpa [upd] using h9), (by have h9 := hI.f10; simpa [upd] using h9), (by have h9 := hI.f11; simpa [upd] using h9), (by have h9 := hI.f12; simpa [upd] using h9), (by have h9 := hI.f13; simpa [upd] using h9), (by have h9 := hI.f14; simpa [upd] using h9), (by have h9 := hI.f15; simpa [upd] using h9), (by have h9 := hI.f16; simpa [upd] using h9), (by have h9 := hI.f17; simpa [upd] using h9), (fun _ => upd_same _ _ _), (by have h9 := hI.f19; simpa [upd] using h9), (by have h9 := hI.f20; simpa [upd] using h9), (by have h9 := hI.f21; simpa [upd] using h9), (by have h9 := hI.f22; simpa [upd] using h9), (by have h9 := hI.res; simpa [upd] using h9), (by have h9 := hI.f24; simpa [upd] using h9), hI.lt.skip (Nat.le_refl _) (by decide), hI.cr.skip (by decide) (by decide)⟩
    · intro D x w1 b hI hD hdep hcl hb
      have e2 : b.tmps[83]?.getD undef = .pointer (some ⟨b2, o2, none⟩) := (hb 83).trans (hI.f18 (hdep 18 (by decide)))
      have ec := ((hI.bel.cell (p := ⟨b2, o2, none⟩) (by show b2 < w.heap.size + 2; omega)).trans (H4.out b2 o2 (by omega))).trans hcO.out
      refine wp_of_run (.int .i64 o0) (w' := w1) ?_ ?_
      · clear hb hI hdep hcl hX hO hcX hcO H4 ERX ERO
        go_simp
      · exact ⟨hI.bel, hI.siz, (by have h9 := hI.f0; simpa [upd] using h9), (by have h9 := hI.f1; simpa [upd] using h9), (by have h9 := hI.f2; simpa [upd] using h9), (by have h9 := hI.f3; simpa [upd] using h9), (by have h9 := hI.f4; simpa [upd] using h9), (by have h9 := hI.f5; simpa [upd] using h9), (by have h9 := hI.f6; simpa [upd] using h9), (by have h9 := hI.f7; simpa [upd] using h9), (by have h9 := hI.f8; simpa [upd] using h9), (by have h9 := hI.f9; simpa [upd] using h9), (by have h9 := hI.f10; simpa [upd] using h9), (by have h9 := hI.f11; simpa [upd] using h9), (by have h9 := hI.f12; simpa [upd] using h9), (by have h9 := hI.f13; simpa [upd] using h9), (by have h9 := hI.f14; simpa [upd] using h9), (by have h9 := hI.f15; simpa [upd] using h9), (by have h9 := hI.f16; simpa [upd] using h9), (by have h9 := hI.f17; simpa [upd] using h9), (by have h9 := hI.f18; simpa [upd] using h9), (fun _ => upd_same _ _ _), (by have h9 := hI.f20; simpa [upd] using h9), (by have h9 := hI.f21; simpa [upd] using h9), (by have h9 := hI.f22; simpa [upd] using h9), (by have h9 := hI.res; simpa [upd] using h9), (by have h9 := hI.f24; simpa [upd] using h9), hI.lt.skip (Nat.le_refl _) (by decide), hI.cr.skip (by decide) (by decide)⟩
    · intro D x w1 b hI hD hdep hcl hb
      have e2 : b.tmps[84]?.getD undef = .int .i64 o0 := (hb 84).trans (hI.f19 (hdep 19 (by decide)))
      refine wp_of_run (.slice (some ⟨w1.heap.size, 0, none⟩) 1 1) (w' := w1.alloc (.cells #[.int .i64 o0] 3)) ?_ ?_
      · clear hb hI hdep hcl hX hO hcX hcO H4 ERX ERO
        go_simp
      · have hg := Gro.alloc w1 (.cells #[.int .i64 o0] 3)
        exact ⟨hI.bel.trans (hg.bel.mono (by have := hI.siz; omega)), Nat.le_trans hI.siz hg.size, (by have h9 := hI.f0; simpa [upd] using h9), (by have h9 := hI.f1; simpa [upd] using h9), (by have h9 := hI.f2; simpa [upd] using h9), (by have h9 := hI.f3; simpa [upd] using h9), (by have h9 := hI.f4; simp only [upd_ne _ _ (show (4 : Nat) ≠ 20 by decide), upd_ne _ _ (show (10 : Nat) ≠ 20 by decide)]; exact fun h h' => (h9 h h').gro hg (fun k _ => by simp)), (by have h9 := hI.f5; simpa [upd] using h9), (by have h9 := hI.f6; simpa [upd] using h9), (by have h9 := hI.f7; simpa [upd] using h9), (by have h9 := hI.f8; simpa [upd] using h9), (by have h9 := hI.f9; simp only [upd_ne _ _ (show (9 : Nat) ≠ 20 by decide), upd_ne _ _ (show (10 : Nat) ≠ 20 by decide)]; intro h h'; obtain ⟨b, e1, e2⟩ := h9 h h'; exact ⟨b, e1, e2.gro hg (by simp)⟩), (by have h9 := hI.f10; simp only [upd_ne _ _ (show (10 : Nat) ≠ 20 by decide)]; exact fun h => (h9 h).gro hg (fun k _ => by simp)), (by have h9 := hI.f11; simpa [upd] using h9), (by have h9 := hI.f12; simpa [upd] using h9), (by have h9 := hI.f13; simpa [upd] using h9), (by have h9 := hI.f14; simpa [upd] using h9), (by have h9 := hI.f15; simp only [upd_ne _ _ (show (15 : Nat) ≠ 20 by decide), upd_ne _ _ (show (21 : Nat) ≠ 20 by decide)]; exact fun h h' => (h9 h h').gro hg (fun k _ => by simp)), (by have h9 := hI.f16; simpa [upd] using h9), (by have h9 := hI.f17; simpa [upd] using h9), (by have h9 := hI.f18; simpa [upd] using h9), (by have h9 := hI.f19; simpa [upd] using h9), (fun _ _ => ⟨_, upd_same _ _ _, Arr.new w1 3 [.int .i64 o0]⟩), (by have h9 := hI.f21; simp only [upd_ne _ _ (show (21 : Nat) ≠ 20 by decide)]; exact fun h => (h9 h).gro hg (fun k _ => by simp)), (by have h9 := hI.f22; simpa [upd] using h9), (by have h9 := hI.res; simp only [upd_ne _ _ (show (10 : Nat) ≠ 20 by decide), upd_ne _ _ (show (21 : Nat) ≠ 20 by decide), upd_ne _ _ (show (23 : Nat) ≠ 20 by decide)]; exact ⟨fun h => (h9.1 h).gro hg (by simp), fun h => (h9.2 h).gro hg (by simp)⟩), (by have h9 := hI.f24; simpa [upd] using h9), hI.lt.upd hg.size (fun k hk => by simp [Value.ownBlock] at hk; simp; omega), hI.cr.right (w := w1) (fun p hp => hI.lt p (by revert hp; simp; omega)) (by decide) (fun k hk => .inl (by simp [Value.ownBlock] at hk; omega))⟩
    · intro D x w1 b hI hD hdep hcl hb
      have dz : D 15 = true := hdep 15 (by decide)
      have h4' := hI.f15 dz hD
      obtain ⟨b9, e9, a9⟩ := hI.f20 (hdep 20 (by decide)) hD
      have e1 : b.tmps[80]?.getD undef = x 15 := hb 80
      have e2 : b.tmps[85]?.getD undef = .slice (some ⟨b9, 0, none⟩) 1 1 := (hb 85).trans e9
      refine wp_appG (.tmp 80) (.tmp 85) 22 rfl Tryz.underlying22 hi0 hz0 hz1 hz2 (by simpa [Act.eval] using e1) h4' (ys := [o0]) (by simpa [Act.eval] using e2) (Ints.of_arr (xs := [o0]) a9) (by simp; omega) hI.siz ?_
      intro v' w' hown hg' hbk
      refine StepPost.mk' ?_
      have hzN : (x 15).ownBlock ≠ some (w.heap.size + 2) := fun h => by have := (h4'.lt _ h).1; omega
      have er : O.drop 1 ++ [o0] = rotL O := ERO.out
      exact ⟨hI.bel.trans (hg'.bel.mono (by have := hI.siz; omega)), Nat.le_trans hI.siz hg'.size, (by have h9 := hI.f0; simpa [upd] using h9), (by have h9 := hI.f1; simpa [upd] using h9), (by have h9 := hI.f2; simpa [upd] using h9), (by have h9 := hI.f3; simpa [upd] using h9), (by have h9 := hI.f4; simp only [upd_ne _ _ (show (4 : Nat) ≠ 21 by decide), upd_ne _ _ (show (10 : Nat) ≠ 21 by decide)]; exact fun h h' => (h9 h h').gro hg' (fun k hk => hI.cr 4 (by decide) 15 (by decide) h dz k hk)), (by have h9 := hI.f5; simpa [upd] using h9), (by have h9 := hI.f6; simpa [upd] using h9), (by have h9 := hI.f7; simpa [upd] using h9), (by have h9 := hI.f8; simpa [upd] using h9), (by have h9 := hI.f9; simp only [upd_ne _ _ (show (9 : Nat) ≠ 21 by decide), upd_ne _ _ (show (10 : Nat) ≠ 21 by decide)]; intro h h'; obtain ⟨b, e1, e2⟩ := h9 h h'; exact ⟨b, e1, e2.gro hg' ((fun k hk => hI.cr 9 (by decide) 15 (by decide) h dz k hk) b (by rw [e1]; rfl))⟩), (by have h9 := hI.f10; simp only [upd_ne _ _ (show (10 : Nat) ≠ 21 by decide)]; exact fun h => (h9 h).gro hg' (fun k hk => hI.cr 10 (by decide) 15 (by decide) h dz k hk)), (by have h9 := hI.f11; simpa [upd] using h9), (by have h9 := hI.f12; simpa [upd] using h9), (by have h9 := hI.f13; simpa [upd] using h9), (by have h9 := hI.f14; simpa [upd] using h9), (fun _ h => by simp [upd] at h), (by have h9 := hI.f16; simpa [upd] using h9), (by have h9 := hI.f17; simpa [upd] using h9), (by have h9 := hI.f18; simpa [upd] using h9), (by have h9 := hI.f19; simpa [upd] using h9), (fun _ h => by simp [upd] at h), (fun _ => by rw [upd_same, ← er]; exact hown), (fun h => absurd (hcl 22 (by simpa [upd] using h) 21 (by decide)) (by simp [hD])), (by have h9 := hI.res; simp only [upd_ne _ _ (show (10 : Nat) ≠ 21 by decide), upd_ne _ _ (show (23 : Nat) ≠ 21 by decide)]; exact ⟨fun h => (h9.1 h).gro hg' hzN, fun h => absurd (hcl 22 (hcl 23 h 22 (by decide)) 21 (by decide)) (by simp [hD])⟩), (by have h9 := hI.f24; simpa [upd] using h9), hI.lt.upd hg'.size (fun k hk => (hown.lt k hk).2), hI.cr.right (w := w1) (fun p hp => hI.lt p (by revert hp; simp; omega)) (by decide) (fun k hk => by rcases hbk with h | h; exact .inr ⟨15, by decide, dz, h ▸ hk⟩; exact .inl (by rw [h] at hk; injection hk with hk; omega))⟩
    · intro D x w1 b hI hD hdep hcl hb
      have e1 : b.tmps[75]?.getD undef = x 10 := hb 75
      have e2 : b.tmps[86]?.getD undef = x 21 := hb 86
      refine wp_of_run (.agg #[x 10, x 21]) (w' := w1) ?_ ?_
      · obtain ⟨C0, m0, h0⟩ := (hI.f10 (hdep 10 (by decide))).form
        obtain ⟨C1, m1, h1⟩ := (hI.f21 (hdep 21 (by decide))).form
        rw [h0] at e1 ⊢
        rw [h1] at e2 ⊢
        clear h0 h1
        clear hb hI hdep hcl hX hO hcX hcO H4 ERX ERO
        go_simp
      · exact ⟨hI.bel, hI.siz, (by have h9 := hI.f0; simpa [upd] using h9), (by have h9 := hI.f1; simpa [upd] using h9), (by have h9 := hI.f2; simpa [upd] using h9), (by have h9 := hI.f3; simpa [upd] using h9), (by have h9 := hI.f4; simpa [upd] using h9), (by have h9 := hI.f5; simpa [upd] using h9), (by have h9 := hI.f6; simpa [upd] using h9), (by have h9 := hI.f7; simpa [upd] using h9), (by have h9 := hI.f8; simpa [upd] using h9), (by have h9 := hI.f9; simpa [upd] using h9), (by have h9 := hI.f10; simpa [upd] using h9), (by have h9 := hI.f11; simpa [upd] using h9), (by have h9 := hI.f12; simpa [upd] using h9), (by have h9 := hI.f13; simpa [upd] using h9), (by have h9 := hI.f14; simpa [upd] using h9), (by have h9 := hI.f15; simpa [upd] using h9), (by have h9 := hI.f16; simpa [upd] using h9), (by have h9 := hI.f17; simpa [upd] using h9), (by have h9 := hI.f18; simpa [upd] using h9), (by have h9 := hI.f19; simpa [upd] using h9), (by have h9 := hI.f20; simpa [upd] using h9), (by have h9 := hI.f21; simpa [upd] using h9), (fun _ => by simp [upd]), (by have h9 := hI.res; simpa [upd] using h9), (by have h9 := hI.f24; simpa [upd] using h9), hI.lt.skip (Nat.le_refl _) (by decide), hI.cr.skip (by decide) (by decide)⟩
    · intro D x w1 b hI hD hdep hcl hb
      have ha := hI.res.1 hD
      have e1 : b.tmps[4]?.getD undef = .pointer (some ⟨w.heap.size + 2, 0, none⟩) := hb 4
      have e2 : b.tmps[87]?.getD undef = .agg #[x 10, x 21] := (hb 87).trans (hI.f22 (hdep 22 (by decide)))
      have d3 := hcl 22 (hdep 22 (by decide)) 10 (by decide)
      have d7 := hcl 22 (hdep 22 (by decide)) 21 (by decide)
      obtain ⟨C0, m0, h0⟩ := (hI.f10 d3).form
      obtain ⟨C1, m1, h1⟩ := (hI.f21 d7).form
      have q0 := ha.cell 0
      have q1 := ha.cell 1
      have q2 := ha.frozen 0
      have q3 := ha.frozen 1
      refine wp_of_skip (w' := (w1.setCell ⟨w.heap.size + 2, 0, none⟩ (x 10)).setCell ⟨w.heap.size + 2, 1, none⟩ (x 21)) ?_ ?_
      · rw [h0, h1] at e2 ⊢
        clear h0 h1 ha
        clear hb hI hdep hcl hX hO hcX hcO H4 ERX ERO
        go_simp
      · have ar := (ha.set 0 (x 10)).set 1 (x 21)
        have hg : Gro (w.heap.size + 2) w1 ((w1.setCell ⟨w.heap.size + 2, 0, none⟩ (x 10)).setCell ⟨w.heap.size + 2, 1, none⟩ (x 21)) (some (w.heap.size + 2)) :=
          ⟨bset2 (r := w.heap.size + 2) (Below.refl _ _) (Nat.le_refl _), fun k hk hne => heap_set2 w1 (w.heap.size + 2) 0 1 k _ _ (fun e => hne (by rw [e]))⟩
        have hk {v : Value} {xs : List Int} (h : OwnI 3 w5.heap.size w1 v xs) : ∀ k, v.ownBlock = some k → some (w.heap.size + 2) ≠ some k := fun k hk e => by injection e with e; have := (h.lt k hk).1; omega
        exact ⟨hI.bel.trans hg.bel, Nat.le_trans hI.siz hg.size, (by have h9 := hI.f0; simpa [upd] using h9), (by have h9 := hI.f1; simpa [upd] using h9), (by have h9 := hI.f2; simpa [upd] using h9), (by have h9 := hI.f3; simpa [upd] using h9), (by have h9 := hI.f4; simp only [upd_ne _ _ (show (4 : Nat) ≠ 23 by decide), upd_ne _ _ (show (10 : Nat) ≠ 23 by decide)]; exact fun h h' => (h9 h h').gro hg (hk (h9 h h'))), (by have h9 := hI.f5; simpa [upd] using h9), (by have h9 := hI.f6; simpa [upd] using h9), (by have h9 := hI.f7; simpa [upd] using h9), (by have h9 := hI.f8; simpa [upd] using h9), (by simp only [upd_ne _ _ (show (9 : Nat) ≠ 23 by decide), upd_ne _ _ (show (10 : Nat) ≠ 23 by decide)]; intro h h'; rw [d3] at h'; cases h'), (by have h9 := hI.f10; simp only [upd_ne _ _ (show (10 : Nat) ≠ 23 by decide)]; exact fun h => (h9 h).gro hg (hk (h9 h))), (by have h9 := hI.f11; simpa [upd] using h9), (by have h9 := hI.f12; simpa [upd] using h9), (by have h9 := hI.f13; simpa [upd] using h9), (by have h9 := hI.f14; simpa [upd] using h9), (by have h9 := hI.f15; simp only [upd_ne _ _ (show (15 : Nat) ≠ 23 by decide), upd_ne _ _ (show (21 : Nat) ≠ 23 by decide)]; exact fun h h' => (h9 h h').gro hg (hk (h9 h h'))), (by have h9 := hI.f16; simpa [upd] using h9), (by have h9 := hI.f17; simpa [upd] using h9), (by have h9 := hI.f18; simpa [upd] using h9), (by have h9 := hI.f19; simpa [upd] using h9), (by simp only [upd_ne _ _ (show (20 : Nat) ≠ 23 by decide), upd_ne _ _ (show (21 : Nat) ≠ 23 by decide)]; intro h h'; rw [d7] at h'; cases h'), (by have h9 := hI.f21; simp only [upd_ne _ _ (show (21 : Nat) ≠ 23 by decide)]; exact fun h => (h9 h).gro hg (hk (h9 h))), (by have h9 := hI.f22; simpa [upd] using h9), ⟨fun h => by simp [upd] at h, fun _ => by simpa [upd] using ar⟩, (by have h9 := hI.f24; simpa [upd] using h9), hI.lt.skip hg.size (by decide), hI.cr.skip (by decide) (by decide)⟩
    · intro D x w1 b hI hD hdep hcl hb
      refine wp_of_run (.int .i64 0) (w' := w1) ?_ ?_
      · clear hb hI hdep hcl hX hO hcX hcO H4 ERX ERO
        go_simp
      · exact ⟨hI.bel, hI.siz, (by have h9 := hI.f0; simpa [upd] using h9), (by have h9 := hI.f1; simpa [upd] using h9), (by have h9 := hI.f2; simpa [upd] using h9), (by have h9 := hI.f3; simpa [upd] using h9), (by have h9 := hI.f4; simpa [upd] using h9), (by have h9 := hI.f5; simpa [upd] using h9), (by have h9 := hI.f6; simpa [upd] using h9), (by have h9 := hI.f7; simpa [upd] using h9), (by have h9 := hI.f8; simpa [upd] using h9), (by have h9 := hI.f9; simpa [upd] using h9), (by have h9 := hI.f10; simpa [upd] using h9), (by have h9 := hI.f11; simpa [upd] using h9), (by have h9 := hI.f12; simpa [upd] using h9), (by have h9 := hI.f13; simpa [upd] using h9), (by have h9 := hI.f14; simpa [upd] using h9), (by have h9 := hI.f15; simpa [upd] using h9), (by have h9 := hI.f16; simpa [upd] using h9), (by have h9 := hI.f17; simpa [upd] using h9), (by have h9 := hI.f18; simpa [upd] using h9), (by have h9 := hI.f19; simpa [upd] using h9), (by have h9 := hI.f20; simpa [upd] using h9), (by have h9 := hI.f21; simpa [upd] using h9), (by have h9 := hI.f22; simpa [upd] using h9), (by have h9 := hI.res; simpa [upd] using h9), (fun _ => upd_same _ _ _), hI.lt.skip (Nat.le_refl _) (by decide), hI.cr.skip (by decide) (by decide)⟩
    · intro D x w1 hI hD
      have d10 := hI.f10 (hD 10 (by decide))
      have d21 := hI.f21 (hD 21 (by decide))
      have e24 := hI.f24 (hD 24 (by decide))
      have rs := hI.res.2 (hD 23 (by decide))
      obtain ⟨C0, m0, h0⟩ := d10.form
      obtain ⟨C1, m1, h1⟩ := d21.form
      simp only [putAll, dstOf, Act.put, List.map_cons, List.map_nil, List.setIfInBounds_toArray, List.set_cons_succ, List.set_cons_zero, Nat.reduceAdd]
      rw [e24]
      rw [h0] at d10 rs
      rw [h1] at d21 rs
      have bb := hbw.trans (hI.bel.mono (by omega))
      clear h0 h1 hI
      go_wp2_with fail
      go_meet
      exact ⟨rfl, _, _, _, _, _, _, rs, d10.mono (by omega), d21.mono (by omega), bb⟩
  case rest =>
    obtain ⟨rfl, A0, n0, c0, A1, n1, c1, rs, o1, o2, bb⟩ := hcut
    go_wp2_with fail
    refine bodyPost_ret (v := .tuple #[.agg #[.slice A0 n0 c0, .slice A1 n1 c1], .int .i64 0]) (results_ct Tryz.results66 _ _ (w.heap.size + 2) 24 _ _ rfl rs Tryz.underlying24 rfl info_grid) rfl ?_
    exact ⟨_, rfl, ⟨_, _, _, _, _, _, rfl, o1, o2⟩, bb⟩
end Go.Proofs.YteliflcbegcdlaaGreatDoor
