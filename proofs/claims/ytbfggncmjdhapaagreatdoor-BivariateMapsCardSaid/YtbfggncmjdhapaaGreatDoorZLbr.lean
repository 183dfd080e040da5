/- BivariateRing: the law's walk. -/
import Derived.Test.YtbfggncmjdhapaaGreatDoorZEnd
namespace Go.Proofs.YtbfggncmjdhapaaGreatDoor
open Go.RowKit
set_option linter.unusedVariables false

/-- a polynomial told by a list of terms, within bounds -/
def QB (w : World) (v : Value) (L : List T2) (S N n : Nat) : Prop := PL w v L ∧ Bd2 S N L ∧ L.length ≤ n
theorem QB.below {w w' : World} {v : Value} {L : List T2} {S N n : Nat} (h : QB w v L S N n) (hb : Below w.heap.size w w') : QB w' v L S N n := ⟨h.1.below hb, h.2.1, h.2.2⟩
def QBR (L : List T2) (S N n : Nat) (w : World) (e : Ending) (w' : World) : Prop := ∃ v, e = .returned v ∧ Below w.heap.size w w' ∧ QB w' v L S N n
section
variable {w : World} {vp vq : Value} {L M : List T2} {S S2 N N2 n n2 : Nat}
theorem AddQB (hp : QB w vp L S N n) (hq : QB w vq M S2 N2 n2) (hS : S + S2 ≤ 1125899906842624) (hN : max N N2 ≤ 1048576) (hl : n + n2 ≤ 1000000) : Calls Tryz.prog 12 #[vp, vq] w (QBR (L ++ M) (S + S2) (max N N2) (n + n2) w) := by
  have b1 := hp.2.1.mono (Nat.le_refl S) (Nat.le_max_left N N2)
  have b2 := hq.2.1.mono (Nat.le_refl S2) (Nat.le_max_right N N2)
  have e1 := hp.2.2
  have e2 := hq.2.2
  refine (AddPL vp vq L M w hp.1 hq.1 b1 b2 hS hN (by omega)).mono ?_
  rintro e w' ⟨v, he, hb, hv⟩
  exact ⟨v, he, hb, hv, ⟨by rw [asum2_append]; have := b1.su; have := b2.su; omega, b1.eb.append b2.eb, by simp; omega⟩, by simp; omega⟩
theorem SubQB (hp : QB w vp L S N n) (hq : QB w vq M S2 N2 n2) (hS : S + S2 ≤ 1125899906842624) (hN : max N N2 ≤ 1048576) (hl : n + n2 ≤ 1000000) : Calls Tryz.prog 15 #[vp, vq] w (QBR (L ++ negT M) (S + S2) (max N N2) (n + n2) w) := by
  have b1 := hp.2.1.mono (Nat.le_refl S) (Nat.le_max_left N N2)
  have b2 := hq.2.1.mono (Nat.le_refl S2) (Nat.le_max_right N N2)
  have e1 := hp.2.2
  have e2 := hq.2.2
  have e3 : (negT M).length = M.length := by unfold negT; simp
  refine (SubPL vp vq L M w hp.1 hq.1 b1 b2 hS hN (by omega)).mono ?_
  rintro e w' ⟨v, he, hb, hv⟩
  exact ⟨v, he, hb, hv, ⟨by rw [asum2_append, asum2_neg]; have := b1.su; have := b2.su; omega, b1.eb.append b2.eb.neg, by rw [List.length_append]; omega⟩, by rw [List.length_append]; omega⟩
theorem MulQB (hp : QB w vp L S N n) (hq : QB w vq M S2 N2 n2) (hS : S * S2 ≤ 1125899906842624) (hN : N + N2 ≤ 1048576) (hl : n * n2 ≤ 1000000) : Calls Tryz.prog 14 #[vp, vq] w (QBR (mulT L M) (S * S2) (N + N2) (n * n2) w) := by
  have h1 : L.length * M.length ≤ n * n2 := Nat.mul_le_mul hp.2.2 hq.2.2
  refine (MulPL vp vq L M w hp.1 hq.1 hp.2.1 hq.2.1 hS hN (by omega)).mono ?_
  rintro e w' ⟨v, he, hb, hv⟩
  exact ⟨v, he, hb, hv, ⟨by rw [asum2_mulT]; exact Nat.mul_le_mul hp.2.1.su hq.2.1.su, hp.2.1.eb.mul hq.2.1.eb, by rw [mulT_len]; omega⟩, by rw [mulT_len]; omega⟩
theorem EqualQB (hp : QB w vp L S N n) (hq : QB w vq M S2 N2 n2) (he : ∀ e, cg2 L e = cg2 M e) : Calls Tryz.prog 13 #[vp, vq] w fun e w' => e = .returned (.bool true) ∧ Below w.heap.size w w' := EqualPL vp vq L M w hp.1 hq.1 hp.2.1 hq.2.1 he
end
theorem cg2_mul_one (L : List T2) (e : K2) : cg2 (mulT L [((0, 0), 1)]) e = cg2 L e := by
  rw [mulT_single, mulT_cons, mulT_nil, List.append_nil]
  congr 1
  have : (fun t : T2 => (kadd (0, 0) t.1, 1 * t.2)) = id := by
    funext t
    obtain ⟨⟨a, z⟩, c⟩ := t
    simp [kadd]
  rw [this, List.map_id]
/-- the law's polynomials, boxed -/
structure Rg4 (w W : World) (b0 b1 b2 b3 : Nat) (A0 A1 A2 A3 : Option Addr) (n0 c0 n1 c1 n2 c2 n3 c3 : Nat) (L M N : List T2) : Prop where
  q0 : Arr W b0 27 [.bool false, .slice A0 n0 c0]
  q1 : Arr W b1 27 [.bool false, .slice A1 n1 c1]
  q2 : Arr W b2 27 [.bool false, .slice A2 n2 c2]
  q3 : Arr W b3 27 [.bool false, .slice A3 n3 c3]
  p0 : QB W (.agg #[.bool false, .slice A0 n0 c0]) L 6000 1000 6
  p1 : QB W (.agg #[.bool false, .slice A1 n1 c1]) M 6000 1000 6
  p2 : QB W (.agg #[.bool false, .slice A2 n2 c2]) N 6000 1000 6
  p3 : QB W (.agg #[.bool false, .slice A3 n3 c3]) [((0, 0), 1)] 1 0 1
  bl : Below w.heap.size w W
theorem Rg4.below {w W W' : World} {b0 b1 b2 b3 : Nat} {A0 A1 A2 A3 : Option Addr} {n0 c0 n1 c1 n2 c2 n3 c3 : Nat} {L M N : List T2} (h : Rg4 w W b0 b1 b2 b3 A0 A1 A2 A3 n0 c0 n1 c1 n2 c2 n3 c3 L M N) (hb : Below W.heap.size W W') : Rg4 w W' b0 b1 b2 b3 A0 A1 A2 A3 n0 c0 n1 c1 n2 c2 n3 c3 L M N :=
  ⟨h.q0.below hb h.q0.lt, h.q1.below hb h.q1.lt, h.q2.below hb h.q2.lt, h.q3.below hb h.q3.lt, h.p0.below hb, h.p1.below hb, h.p2.below hb, h.p3.below hb, h.bl.trans (hb.mono h.bl.size)⟩
set_option maxHeartbeats 8000000 in
set_option maxRecDepth 100000 in
theorem ring_law (v0 v1 v2 : Value) (L M N : List T2) (w : World) (h0 : SlA tB w v0 L) (h1 : SlA tB w v1 M) (h2 : SlA tB w v2 N) (l0 : L.length ≤ 9223372036854775807) (i0 : I64T L) (l1 : M.length ≤ 9223372036854775807) (i1 : I64T M) (l2 : N.length ≤ 9223372036854775807) (i2 : I64T N) (ht : Tb w) :
    Calls Tryz.prog 3 #[v0, v1, v2] w fun e w' => e = .returned (.bool true) ∧ Below w.heap.size w w' := by
  have HA := Lib.hid (awake13 w ht)
  have HS0 := Lib.hid (fun W (hb : Below w.heap.size w W) => smallL_any v0 L W (h0.below hb) l0)
  have HS1 := Lib.hid (fun W (hb : Below w.heap.size w W) => smallL_any v1 M W (h1.below hb) l1)
  have HS2 := Lib.hid (fun W (hb : Below w.heap.size w W) => smallL_any v2 N W (h2.below hb) l2)
  have HO0 := Lib.hid (fun W (hb : Below w.heap.size w W) (k : L.length ≤ 6) => of_any v0 L W (h0.below hb) i0 (by omega))
  have HO1 := Lib.hid (fun W (hb : Below w.heap.size w W) (k : M.length ≤ 6) => of_any v1 M W (h1.below hb) i1 (by omega))
  have HO2 := Lib.hid (fun W (hb : Below w.heap.size w W) (k : N.length ≤ 6) => of_any v2 N W (h2.below hb) i2 (by omega))
  obtain ⟨S0, hS0⟩ : ∃ S, S = smL L := ⟨_, rfl⟩
  obtain ⟨S1, hS1⟩ : ∃ S, S = smL M := ⟨_, rfl⟩
  obtain ⟨S2, hS2⟩ : ∃ S, S = smL N := ⟨_, rfl⟩
  rw [← hS0] at HS0
  rw [← hS1] at HS1
  rw [← hS2] at HS2
  have E0 := Lib.hid hS0
  have E1 := Lib.hid hS1
  have E2 := Lib.hid hS2
  clear ht h0 h1 h2 l0 l1 l2 i0 i1 i2 hS0 hS1 hS2
  go_enter Tryz.func3, Tryz.ntmps3
  go_wp2_with fail
  refine HA.out.mono ?_
  rintro e w1 ⟨rfl, hb1⟩
  have B1 := Lib.hid hb1
  clear hb1 HA
  go_wp2_with fail
  refine (HS0.out w1 B1.out).mono ?_
  rintro e w2 ⟨rfl, hb2⟩
  have B2 := Lib.hid (B1.out.trans (hb2.mono B1.out.size))
  clear hb2 HS0 B1
  cases S0 with
  | false =>
    go_wp2_with fail
    go_ret
    exact ⟨rfl, B2.out⟩
  | true =>
  go_wp2_with fail
  refine (HS1.out w2 B2.out).mono ?_
  rintro e w3 ⟨rfl, hb3⟩
  have B3 := Lib.hid (B2.out.trans (hb3.mono B2.out.size))
  clear hb3 HS1 B2
  cases S1 with
  | false =>
    go_wp2_with fail
    go_ret
    exact ⟨rfl, B3.out⟩
  | true =>
  go_wp2_with fail
  refine (HS2.out w3 B3.out).mono ?_
  rintro e w4 ⟨rfl, hb4⟩
  have B4 := Lib.hid (B3.out.trans (hb4.mono B3.out.size))
  clear hb4 HS2 B3
  cases S2 with
  | false =>
    go_wp2_with fail
    go_ret
    exact ⟨rfl, B4.out⟩
  | true =>
  have D0 := Lib.hid (smL_bd E0.out.symm)
  have D1 := Lib.hid (smL_bd E1.out.symm)
  have D2 := Lib.hid (smL_bd E2.out.symm)
  clear E0 E1 E2
  go_wp2_with fail
  refine (HO0.out w4 B4.out D0.out.2).mono ?_
  rintro e w5 ⟨x0, r0, rfl, hp0, ho0, hb5⟩
  have P0 := Lib.hid (ho0.pl D0.out.1 (by decide) (by decide) hp0)
  have B5 := Lib.hid (B4.out.trans (hb5.mono B4.out.size))
  clear hb5 HO0 B4 hp0 ho0
  go_wp2_with fail
  refine (HO1.out w5 B5.out D1.out.2).mono ?_
  rintro e w6 ⟨x1, r1, rfl, hp1, ho1, hb6⟩
  have P1 := Lib.hid (ho1.pl D1.out.1 (by decide) (by decide) hp1)
  have P0' := Lib.hid (P0.out.below hb6)
  have B6 := Lib.hid (B5.out.trans (hb6.mono B5.out.size))
  clear hb6 HO1 B5 hp1 ho1 P0
  go_wp2_with fail
  refine (HO2.out w6 B6.out D2.out.2).mono ?_
  rintro e w7 ⟨x2, r2, rfl, hp2, ho2, hb7⟩
  have P2 := Lib.hid (ho2.pl D2.out.1 (by decide) (by decide) hp2)
  have P0 := Lib.hid (P0'.out.below hb7)
  have P1' := Lib.hid (P1.out.below hb7)
  have B7 := Lib.hid (B6.out.trans (hb7.mono B6.out.size))
  clear hb7 HO2 B6 hp2 ho2 P0' P1
  obtain ⟨A0, n0, c0, rfl⟩ := P0.out.form
  obtain ⟨A1, n1, c1, rfl⟩ := P1'.out.form
  obtain ⟨A2, n2, c2, rfl⟩ := P2.out.form
  go_upto_region 6 with fail
  have hW : ∀ W, W = ((w7.alloc (.cells #[.bool false, .slice A0 n0 c0] 27)).alloc (.cells #[.bool false, .slice A1 n1 c1] 27)).alloc (.cells #[.bool false, .slice A2 n2 c2] 27) → Arr W w7.heap.size 27 [.bool false, .slice A0 n0 c0] ∧ Arr W (w7.heap.size + 1) 27 [.bool false, .slice A1 n1 c1] ∧ Arr W (w7.heap.size + 1 + 1) 27 [.bool false, .slice A2 n2 c2] ∧ Below w7.heap.size w7 W := by
    intro W hW
    subst hW
    have s1 : (w7.alloc (.cells #[.bool false, .slice A0 n0 c0] 27)).heap.size = w7.heap.size + 1 := by simp
    have s2 : ((w7.alloc (.cells #[.bool false, .slice A0 n0 c0] 27)).alloc (.cells #[.bool false, .slice A1 n1 c1] 27)).heap.size = w7.heap.size + 1 + 1 := by simp
    have a1 := (Arr.new (w7.alloc (.cells #[.bool false, .slice A0 n0 c0] 27)) 27 [.bool false, .slice A1 n1 c1]).alloc (.cells #[.bool false, .slice A2 n2 c2] 27)
    have a2 := Arr.new ((w7.alloc (.cells #[.bool false, .slice A0 n0 c0] 27)).alloc (.cells #[.bool false, .slice A1 n1 c1] 27)) 27 [.bool false, .slice A2 n2 c2]
    rw [s1] at a1
    rw [s2] at a2
    exact ⟨((Arr.new w7 _ [_, _]).alloc _).alloc _, a1, a2, (((Below.refl _ _).alloc (Nat.le_refl _) _).alloc (by omega) _).alloc (by omega) _⟩
  generalize ((w7.alloc (.cells #[.bool false, .slice A0 n0 c0] 27)).alloc (.cells #[.bool false, .slice A1 n1 c1] 27)).alloc (.cells #[.bool false, .slice A2 n2 c2] 27) = w8 at hW ⊢
  obtain ⟨q0, q1, q2, hb8⟩ := hW w8 rfl
  obtain ⟨b0, hb0⟩ : ∃ b, b = w7.heap.size := ⟨_, rfl⟩
  obtain ⟨b1, hb1⟩ : ∃ b, b = w7.heap.size + 1 := ⟨_, rfl⟩
  obtain ⟨b2, hb2⟩ : ∃ b, b = w7.heap.size + 1 + 1 := ⟨_, rfl⟩
  rw [← hb2] at q2 ⊢
  rw [← hb1] at q1 ⊢
  rw [← hb0] at q0 ⊢
  have Q0 := Lib.hid q0
  have Q1 := Lib.hid q1
  have Q2 := Lib.hid q2
  have P0' := Lib.hid (P0.out.below hb8)
  have P1 := Lib.hid (P1'.out.below hb8)
  have P2' := Lib.hid (P2.out.below hb8)
  have B8 := Lib.hid (B7.out.trans (hb8.mono B7.out.size))
  clear hW q0 q1 q2 hb8 hb0 hb1 hb2 P0 P1' P2 B7
  go_wp2_with fail
  refine (TermPL (S := 1) (N := 0) 1 0 0 w8 ⟨by decide, (by intro t ht; simp at ht; subst ht; simp), by simp⟩ (by decide) (by decide)).mono ?_
  rintro e w9 ⟨x3, rfl, hb9, hp3⟩
  have P3 := Lib.hid hp3
  obtain ⟨A3, n3, c3, rfl⟩ := hp3.form
  have hW : ∀ W, W = w9.alloc (.cells #[.bool false, .slice A3 n3 c3] 27) → ∃ b3, b3 = w9.heap.size ∧ Rg4 w W b0 b1 b2 b3 A0 A1 A2 A3 n0 c0 n1 c1 n2 c2 n3 c3 L M N := by
    intro W hW
    subst hW
    have k := (Below.refl w9.heap.size w9).alloc (Nat.le_refl _) (.cells #[.bool false, .slice A3 n3 c3] 27)
    have g := hb9.trans (k.mono hb9.size)
    exact ⟨_, rfl, Q0.out.below g Q0.out.lt, Q1.out.below g Q1.out.lt, Q2.out.below g Q2.out.lt, Arr.new _ _ [_, _], ⟨P0'.out.below g, D0.out.1, D0.out.2⟩, ⟨P1.out.below g, D1.out.1, D1.out.2⟩, ⟨P2'.out.below g, D2.out.1, D2.out.2⟩, ⟨P3.out.below k, ⟨by decide, (by intro t ht; simp at ht; subst ht; simp), by simp⟩, by simp⟩, B8.out.trans (g.mono B8.out.size)⟩
  have HW := Lib.hid hW
  clear hb9 hp3 hW
  go_upto_region 7 with fail
  have hW := HW.out
  clear HW Q0 Q1 Q2 P0' P1 P2' P3 B8 D0 D1 D2
  generalize w9.alloc (.cells #[.bool false, .slice A3 n3 c3] 27) = w10 at hW ⊢
  obtain ⟨b3, hb3, hr⟩ := hW w10 rfl
  rw [← hb3]
  have R := Lib.hid hr
  clear hW hb3 hr
  refine wp_region_phy (fun a b => Below a.heap.size a b) (fun h k => h.trans (k.mono h.size)) ((Below.refl _ _).drew) (by kernel_rfl) (by kernel_rfl) (by kernel_rfl) (by kernel_rfl) (phiT (fun i => ([some (.agg #[.bool false, .slice A0 n0 c0]), some (.agg #[.bool false, .slice A1 n1 c1]), none, some (.agg #[.bool false, .slice A1 n1 c1]), some (.agg #[.bool false, .slice A0 n0 c0]), none, some (.bool true), some (.bool true), some (.agg #[.bool false, .slice A0 n0 c0]), some (.agg #[.bool false, .slice A1 n1 c1]), none, some (.agg #[.bool false, .slice A1 n1 c1]), some (.agg #[.bool false, .slice A0 n0 c0]), none, some (.bool true), some (.bool true), some (.bool true), some (.agg #[.bool false, .slice A0 n0 c0]), some (.agg #[.bool false, .slice A1 n1 c1]), some (.agg #[.bool false, .slice A2 n2 c2]), none, none, some (.agg #[.bool false, .slice A0 n0 c0]), some (.agg #[.bool false, .slice A1 n1 c1]), none, some (.agg #[.bool false, .slice A2 n2 c2]), none, some (.bool true), some (.bool true), some (.bool true), some (.agg #[.bool false, .slice A0 n0 c0]), some (.agg #[.bool false, .slice A1 n1 c1]), some (.agg #[.bool false, .slice A2 n2 c2]), none, none, some (.agg #[.bool false, .slice A0 n0 c0]), some (.agg #[.bool false, .slice A1 n1 c1]), none, some (.agg #[.bool false, .slice A2 n2 c2]), none, some (.bool true), some (.bool true), some (.bool true), some (.agg #[.bool false, .slice A0 n0 c0]), some (.agg #[.bool false, .slice A1 n1 c1]), some (.agg #[.bool false, .slice A2 n2 c2]), none, none, some (.agg #[.bool false, .slice A0 n0 c0]), some (.agg #[.bool false, .slice A1 n1 c1]), none, some (.agg #[.bool false, .slice A0 n0 c0]), some (.agg #[.bool false, .slice A2 n2 c2]), none, none, some (.bool true), some (.bool true), some (.bool true), some (.agg #[.bool false, .slice A0 n0 c0]), some (.agg #[.bool false, .slice A1 n1 c1]), none, some (.agg #[.bool false, .slice A1 n1 c1]), none, some (.agg #[.bool false, .slice A0 n0 c0]), some (.bool true), some (.bool true), some (.bool true), some (.agg #[.bool false, .slice A0 n0 c0]), some (.agg #[.bool false, .slice A3 n3 c3]), none, some (.agg #[.bool false, .slice A0 n0 c0]), some (.bool true), some (.bool true), some (.bool true), some (.agg #[.bool false, .slice A0 n0 c0]), some (.agg #[.bool false, .slice A0 n0 c0]), none, some (.agg #[.bool false, .slice none 0 0]), some (.bool true), some (.bool true), some (.bool true), some (.agg #[.bool false, .slice A0 n0 c0]), some (.agg #[.bool false, .slice A1 n1 c1]), none, some (.agg #[.bool false, .slice A2 n2 c2]), none, some (.bool false), some (.bool true), some (.bool true), some (.bool true)] : List (Option Value)).getD i none) (fun i v w => (if i = 2 then (fun v w => QB w v (L ++ M) 12000 1000 12) v w else (if i = 5 then (fun v w => QB w v (M ++ L) 12000 1000 12) v w else (if i = 10 then (fun v w => QB w v (mulT L M) 36000000 2000 36) v w else (if i = 13 then (fun v w => QB w v (mulT M L) 36000000 2000 36) v w else (if i = 20 then (fun v w => QB w v (M ++ N) 12000 1000 12) v w else (if i = 21 then (fun v w => QB w v (L ++ (M ++ N)) 18000 1000 18) v w else (if i = 24 then (fun v w => QB w v (L ++ M) 12000 1000 12) v w else (if i = 26 then (fun v w => QB w v ((L ++ M) ++ N) 18000 1000 18) v w else (if i = 33 then (fun v w => QB w v (mulT M N) 36000000 2000 36) v w else (if i = 34 then (fun v w => QB w v (mulT L (mulT M N)) 216000000000 3000 216) v w else (if i = 37 then (fun v w => QB w v (mulT L M) 36000000 2000 36) v w else (if i = 39 then (fun v w => QB w v (mulT (mulT L M) N) 216000000000 3000 216) v w else (if i = 46 then (fun v w => QB w v (M ++ N) 12000 1000 12) v w else (if i = 47 then (fun v w => QB w v (mulT L (M ++ N)) 72000000 2000 72) v w else (if i = 50 then (fun v w => QB w v (mulT L M) 36000000 2000 36) v w else (if i = 53 then (fun v w => QB w v (mulT L N) 36000000 2000 36) v w else (if i = 54 then (fun v w => QB w v ((mulT L M) ++ (mulT L N)) 72000000 2000 72) v w else (if i = 60 then (fun v w => QB w v (L ++ M) 12000 1000 12) v w else (if i = 62 then (fun v w => QB w v ((L ++ M) ++ negT M) 18000 1000 18) v w else (if i = 69 then (fun v w => QB w v (mulT L [((0, 0), 1)]) 6000 1000 6) v w else (if i = 76 then (fun v w => QB w v (L ++ negT L) 12000 1000 12) v w else (if i = 83 then (fun v w => QB w v (mulT L M) 36000000 2000 36) v w else (if i = 85 then (fun v w => QB w v (mulT (mulT L M) N) 216000000000 3000 216) v w else True))))))))))))))))))))))))) (fun i v w w' h hb => ?_) ⟨?_, ?_, ?_, ?_, ?_, ?_, ?_, ?_, ?_, ?_, ?_, ?_, ?_, ?_, ?_, ?_, ?_, ?_, ?_, ?_, ?_, ?_, ?_, ?_, ?_, ?_, ?_, ?_, ?_, ?_, ?_, ?_, ?_, ?_, ?_, ?_, ?_, ?_, ?_, ?_, ?_, ?_, ?_, ?_, ?_, ?_, ?_, ?_, ?_, ?_, ?_, ?_, ?_, ?_, ?_, ?_, ?_, ?_, ?_, ?_, ?_, ?_, ?_, ?_, ?_, ?_, ?_, ?_, ?_, ?_, ?_, ?_, ?_, ?_, ?_, ?_, ?_, ?_, ?_, ?_, ?_, ?_, ?_, ?_, ?_, ?_, ?_, ?_, ?_, ?_, trivial⟩ ?_
  · unfold phiT at h ⊢
    split
    · next u hu => rw [hu] at h; exact h
    · next hu =>
      rw [hu] at h
      simp only at h ⊢
      by_cases q2 : i = 2
      · rw [if_pos q2] at h ⊢; exact QB.below h hb
      · rw [if_neg q2] at h ⊢
        by_cases q5 : i = 5
        · rw [if_pos q5] at h ⊢; exact QB.below h hb
        · rw [if_neg q5] at h ⊢
          by_cases q10 : i = 10
          · rw [if_pos q10] at h ⊢; exact QB.below h hb
          · rw [if_neg q10] at h ⊢
            by_cases q13 : i = 13
            · rw [if_pos q13] at h ⊢; exact QB.below h hb
            · rw [if_neg q13] at h ⊢
              by_cases q20 : i = 20
              · rw [if_pos q20] at h ⊢; exact QB.below h hb
              · rw [if_neg q20] at h ⊢
                by_cases q21 : i = 21
                · rw [if_pos q21] at h ⊢; exact QB.below h hb
                · rw [if_neg q21] at h ⊢
                  by_cases q24 : i = 24
                  · rw [if_pos q24] at h ⊢; exact QB.below h hb
                  · rw [if_neg q24] at h ⊢
                    by_cases q26 : i = 26
                    · rw [if_pos q26] at h ⊢; exact QB.below h hb
                    · rw [if_neg q26] at h ⊢
                      by_cases q33 : i = 33
                      · rw [if_pos q33] at h ⊢; exact QB.below h hb
                      · rw [if_neg q33] at h ⊢
                        by_cases q34 : i = 34
                        · rw [if_pos q34] at h ⊢; exact QB.below h hb
                        · rw [if_neg q34] at h ⊢
                          by_cases q37 : i = 37
                          · rw [if_pos q37] at h ⊢; exact QB.below h hb
                          · rw [if_neg q37] at h ⊢
                            by_cases q39 : i = 39
                            · rw [if_pos q39] at h ⊢; exact QB.below h hb
                            · rw [if_neg q39] at h ⊢
                              by_cases q46 : i = 46
                              · rw [if_pos q46] at h ⊢; exact QB.below h hb
                              · rw [if_neg q46] at h ⊢
                                by_cases q47 : i = 47
                                · rw [if_pos q47] at h ⊢; exact QB.below h hb
                                · rw [if_neg q47] at h ⊢
                                  by_cases q50 : i = 50
                                  · rw [if_pos q50] at h ⊢; exact QB.below h hb
                                  · rw [if_neg q50] at h ⊢
                                    by_cases q53 : i = 53
                                    · rw [if_pos q53] at h ⊢; exact QB.below h hb
                                    · rw [if_neg q53] at h ⊢
                                      by_cases q54 : i = 54
                                      · rw [if_pos q54] at h ⊢; exact QB.below h hb
                                      · rw [if_neg q54] at h ⊢
                                        by_cases q60 : i = 60
                                        · rw [if_pos q60] at h ⊢; exact QB.below h hb
                                        · rw [if_neg q60] at h ⊢
                                          by_cases q62 : i = 62
                                          · rw [if_pos q62] at h ⊢; exact QB.below h hb
                                          · rw [if_neg q62] at h ⊢
                                            by_cases q69 : i = 69
                                            · rw [if_pos q69] at h ⊢; exact QB.below h hb
                                            · rw [if_neg q69] at h ⊢
                                              by_cases q76 : i = 76
                                              · rw [if_pos q76] at h ⊢; exact QB.below h hb
                                              · rw [if_neg q76] at h ⊢
                                                by_cases q83 : i = 83
                                                · rw [if_pos q83] at h ⊢; exact QB.below h hb
                                                · rw [if_neg q83] at h ⊢
                                                  by_cases q85 : i = 85
                                                  · rw [if_pos q85] at h ⊢; exact QB.below h hb
                                                  · rw [if_neg q85] at h ⊢
                                                    trivial
  · intro x w1 bA hT hdep hold hb
    refine .inl ⟨trivial, ?_⟩
    have e7 : bA.tmps[7]?.getD undef = .pointer (some ⟨b0, 0, none⟩) := hb 7
    have cc0 := (R.out.below hT).q0.cell 0
    have cc1 := (R.out.below hT).q0.cell 1
    refine phx_run (.agg #[.bool false, .slice A0 n0 c0]) ?_ (Below.refl _ _) rfl
    clear hb hdep hold
    go_simp
  · intro x w1 bA hT hdep hold hb
    refine .inl ⟨trivial, ?_⟩
    have e8 : bA.tmps[8]?.getD undef = .pointer (some ⟨b1, 0, none⟩) := hb 8
    have cc0 := (R.out.below hT).q1.cell 0
    have cc1 := (R.out.below hT).q1.cell 1
    refine phx_run (.agg #[.bool false, .slice A1 n1 c1]) ?_ (Below.refl _ _) rfl
    clear hb hdep hold
    go_simp
  · intro x w1 bA hT hdep hold hb
    refine .inl ⟨trivial, ?_⟩
    have e33 : bA.tmps[33]?.getD undef = .agg #[.bool false, .slice A0 n0 c0] := (hb 33).trans (hdep 0 (by decide))
    have e34 : bA.tmps[34]?.getD undef = .agg #[.bool false, .slice A1 n1 c1] := (hb 34).trans (hdep 1 (by decide))
    refine phx_call ?_ ((AddQB ((R.out.below hT).p0) ((R.out.below hT).p1) (by decide) (by decide) (by decide)).mono fun e w' h => (by obtain ⟨v, he, hb', hv⟩ := h; exact ⟨v, he, hb', hv⟩))
    clear hb hdep hold
    go_simp
  · intro x w1 bA hT hdep hold hb
    refine .inl ⟨trivial, ?_⟩
    have e8 : bA.tmps[8]?.getD undef = .pointer (some ⟨b1, 0, none⟩) := hb 8
    have cc0 := (R.out.below hT).q1.cell 0
    have cc1 := (R.out.below hT).q1.cell 1
    refine phx_run (.agg #[.bool false, .slice A1 n1 c1]) ?_ (Below.refl _ _) rfl
    clear hb hdep hold
    go_simp
  · intro x w1 bA hT hdep hold hb
    refine .inl ⟨trivial, ?_⟩
    have e7 : bA.tmps[7]?.getD undef = .pointer (some ⟨b0, 0, none⟩) := hb 7
    have cc0 := (R.out.below hT).q0.cell 0
    have cc1 := (R.out.below hT).q0.cell 1
    refine phx_run (.agg #[.bool false, .slice A0 n0 c0]) ?_ (Below.refl _ _) rfl
    clear hb hdep hold
    go_simp
  · intro x w1 bA hT hdep hold hb
    refine .inl ⟨trivial, ?_⟩
    have e36 : bA.tmps[36]?.getD undef = .agg #[.bool false, .slice A1 n1 c1] := (hb 36).trans (hdep 3 (by decide))
    have e37 : bA.tmps[37]?.getD undef = .agg #[.bool false, .slice A0 n0 c0] := (hb 37).trans (hdep 4 (by decide))
    refine phx_call ?_ ((AddQB ((R.out.below hT).p1) ((R.out.below hT).p0) (by decide) (by decide) (by decide)).mono fun e w' h => (by obtain ⟨v, he, hb', hv⟩ := h; exact ⟨v, he, hb', hv⟩))
    clear hb hdep hold
    go_simp
  · intro x w1 bA hT hdep hold hb
    refine .inl ⟨trivial, ?_⟩
    have p35 := hdep 2 (by decide)
    have e35 : bA.tmps[35]?.getD undef = x 2 := hb 35
    generalize x 2 = x35 at *
    have P35 := Lib.hid (show (fun v w => QB w v (L ++ M) 12000 1000 12) x35 w1 from p35)
    clear p35
    have p38 := hdep 5 (by decide)
    have e38 : bA.tmps[38]?.getD undef = x 5 := hb 38
    generalize x 5 = x38 at *
    have P38 := Lib.hid (show (fun v w => QB w v (M ++ L) 12000 1000 12) x38 w1 from p38)
    clear p38
    refine phx_call ?_ ((EqualQB (P35.out) (P38.out) (fun e => by rw [cg2_append, cg2_append, Int.add_comm])).mono fun e w' h => ⟨_, h.1, h.2, rfl⟩)
    clear hb hdep hold
    go_simp
  · intro x w1 bA hT hdep hold hb
    refine .inl ⟨trivial, ?_⟩
    have e39 : bA.tmps[39]?.getD undef = .bool true := (hb 39).trans (hdep 6 (by decide))
    refine phx_run (.bool true) ?_ (Below.refl _ _) rfl
    clear hb hdep hold
    go_simp
  · intro x w1 bA hT hdep hold hb
    refine .inl ⟨⟨40, rfl, (hb 40).trans (hdep 7 (by decide))⟩, ?_⟩
    have e7 : bA.tmps[7]?.getD undef = .pointer (some ⟨b0, 0, none⟩) := hb 7
    have cc0 := (R.out.below hT).q0.cell 0
    have cc1 := (R.out.below hT).q0.cell 1
    refine phx_run (.agg #[.bool false, .slice A0 n0 c0]) ?_ (Below.refl _ _) rfl
    clear hb hdep hold
    go_simp
  · intro x w1 bA hT hdep hold hb
    refine .inl ⟨⟨40, rfl, (hb 40).trans (hdep 7 (by decide))⟩, ?_⟩
    have e8 : bA.tmps[8]?.getD undef = .pointer (some ⟨b1, 0, none⟩) := hb 8
    have cc0 := (R.out.below hT).q1.cell 0
    have cc1 := (R.out.below hT).q1.cell 1
    refine phx_run (.agg #[.bool false, .slice A1 n1 c1]) ?_ (Below.refl _ _) rfl
    clear hb hdep hold
    go_simp
  · intro x w1 bA hT hdep hold hb
    refine .inl ⟨⟨40, rfl, (hb 40).trans (hdep 7 (by decide))⟩, ?_⟩
    have e41 : bA.tmps[41]?.getD undef = .agg #[.bool false, .slice A0 n0 c0] := (hb 41).trans (hdep 8 (by decide))
    have e42 : bA.tmps[42]?.getD undef = .agg #[.bool false, .slice A1 n1 c1] := (hb 42).trans (hdep 9 (by decide))
    refine phx_call ?_ ((MulQB ((R.out.below hT).p0) ((R.out.below hT).p1) (by decide) (by decide) (by decide)).mono fun e w' h => (by obtain ⟨v, he, hb', hv⟩ := h; exact ⟨v, he, hb', hv⟩))
    clear hb hdep hold
    go_simp
  · intro x w1 bA hT hdep hold hb
    refine .inl ⟨⟨40, rfl, (hb 40).trans (hdep 7 (by decide))⟩, ?_⟩
    have e8 : bA.tmps[8]?.getD undef = .pointer (some ⟨b1, 0, none⟩) := hb 8
    have cc0 := (R.out.below hT).q1.cell 0
    have cc1 := (R.out.below hT).q1.cell 1
    refine phx_run (.agg #[.bool false, .slice A1 n1 c1]) ?_ (Below.refl _ _) rfl
    clear hb hdep hold
    go_simp
  · intro x w1 bA hT hdep hold hb
    refine .inl ⟨⟨40, rfl, (hb 40).trans (hdep 7 (by decide))⟩, ?_⟩
    have e7 : bA.tmps[7]?.getD undef = .pointer (some ⟨b0, 0, none⟩) := hb 7
    have cc0 := (R.out.below hT).q0.cell 0
    have cc1 := (R.out.below hT).q0.cell 1
    refine phx_run (.agg #[.bool false, .slice A0 n0 c0]) ?_ (Below.refl _ _) rfl
    clear hb hdep hold
    go_simp
  · intro x w1 bA hT hdep hold hb
    refine .inl ⟨⟨40, rfl, (hb 40).trans (hdep 7 (by decide))⟩, ?_⟩
    have e44 : bA.tmps[44]?.getD undef = .agg #[.bool false, .slice A1 n1 c1] := (hb 44).trans (hdep 11 (by decide))
    have e45 : bA.tmps[45]?.getD undef = .agg #[.bool false, .slice A0 n0 c0] := (hb 45).trans (hdep 12 (by decide))
    refine phx_call ?_ ((MulQB ((R.out.below hT).p1) ((R.out.below hT).p0) (by decide) (by decide) (by decide)).mono fun e w' h => (by obtain ⟨v, he, hb', hv⟩ := h; exact ⟨v, he, hb', hv⟩))
    clear hb hdep hold
    go_simp
  · intro x w1 bA hT hdep hold hb
    refine .inl ⟨⟨40, rfl, (hb 40).trans (hdep 7 (by decide))⟩, ?_⟩
    have p43 := hdep 10 (by decide)
    have e43 : bA.tmps[43]?.getD undef = x 10 := hb 43
    generalize x 10 = x43 at *
    have P43 := Lib.hid (show (fun v w => QB w v (mulT L M) 36000000 2000 36) x43 w1 from p43)
    clear p43
    have p46 := hdep 13 (by decide)
    have e46 : bA.tmps[46]?.getD undef = x 13 := hb 46
    generalize x 13 = x46 at *
    have P46 := Lib.hid (show (fun v w => QB w v (mulT M L) 36000000 2000 36) x46 w1 from p46)
    clear p46
    refine phx_call ?_ ((EqualQB (P43.out) (P46.out) (fun e => mulT_comm _ _ e)).mono fun e w' h => ⟨_, h.1, h.2, rfl⟩)
    clear hb hdep hold
    go_simp
  · intro x w1 bA hT hdep hold hb
    refine .inl ⟨trivial, ?_⟩
    have e40 : bA.tmps[40]?.getD undef = .bool true := (hb 40).trans (hdep 7 (by decide))
    have e47 : bA.tmps[47]?.getD undef = .bool true := (hb 47).trans (hdep 14 (by decide))
    refine phx_run (.bool true) ?_ (Below.refl _ _) rfl
    clear hb hdep hold
    go_simp
  · intro x w1 bA hT hdep hold hb
    refine .inl ⟨trivial, ?_⟩
    have e48 : bA.tmps[48]?.getD undef = .bool true := (hb 48).trans (hdep 15 (by decide))
    refine phx_run (.bool true) ?_ (Below.refl _ _) rfl
    clear hb hdep hold
    go_simp
  · intro x w1 bA hT hdep hold hb
    refine .inl ⟨⟨49, rfl, (hb 49).trans (hdep 16 (by decide))⟩, ?_⟩
    have e7 : bA.tmps[7]?.getD undef = .pointer (some ⟨b0, 0, none⟩) := hb 7
    have cc0 := (R.out.below hT).q0.cell 0
    have cc1 := (R.out.below hT).q0.cell 1
    refine phx_run (.agg #[.bool false, .slice A0 n0 c0]) ?_ (Below.refl _ _) rfl
    clear hb hdep hold
    go_simp
  · intro x w1 bA hT hdep hold hb
    refine .inl ⟨⟨49, rfl, (hb 49).trans (hdep 16 (by decide))⟩, ?_⟩
    have e8 : bA.tmps[8]?.getD undef = .pointer (some ⟨b1, 0, none⟩) := hb 8
    have cc0 := (R.out.below hT).q1.cell 0
    have cc1 := (R.out.below hT).q1.cell 1
    refine phx_run (.agg #[.bool false, .slice A1 n1 c1]) ?_ (Below.refl _ _) rfl
    clear hb hdep hold
    go_simp
  · intro x w1 bA hT hdep hold hb
    refine .inl ⟨⟨49, rfl, (hb 49).trans (hdep 16 (by decide))⟩, ?_⟩
    have e9 : bA.tmps[9]?.getD undef = .pointer (some ⟨b2, 0, none⟩) := hb 9
    have cc0 := (R.out.below hT).q2.cell 0
    have cc1 := (R.out.below hT).q2.cell 1
    refine phx_run (.agg #[.bool false, .slice A2 n2 c2]) ?_ (Below.refl _ _) rfl
    clear hb hdep hold
    go_simp
  · intro x w1 bA hT hdep hold hb
    refine .inl ⟨⟨49, rfl, (hb 49).trans (hdep 16 (by decide))⟩, ?_⟩
    have e51 : bA.tmps[51]?.getD undef = .agg #[.bool false, .slice A1 n1 c1] := (hb 51).trans (hdep 18 (by decide))
    have e52 : bA.tmps[52]?.getD undef = .agg #[.bool false, .slice A2 n2 c2] := (hb 52).trans (hdep 19 (by decide))
    refine phx_call ?_ ((AddQB ((R.out.below hT).p1) ((R.out.below hT).p2) (by decide) (by decide) (by decide)).mono fun e w' h => (by obtain ⟨v, he, hb', hv⟩ := h; exact ⟨v, he, hb', hv⟩))
    clear hb hdep hold
    go_simp
  · intro x w1 bA hT hdep hold hb
    refine .inl ⟨⟨49, rfl, (hb 49).trans (hdep 16 (by decide))⟩, ?_⟩
    have e50 : bA.tmps[50]?.getD undef = .agg #[.bool false, .slice A0 n0 c0] := (hb 50).trans (hdep 17 (by decide))
    have p53 := hdep 20 (by decide)
    have e53 : bA.tmps[53]?.getD undef = x 20 := hb 53
    generalize x 20 = x53 at *
    have P53 := Lib.hid (show (fun v w => QB w v (M ++ N) 12000 1000 12) x53 w1 from p53)
    clear p53
    refine phx_call ?_ ((AddQB ((R.out.below hT).p0) (P53.out) (by decide) (by decide) (by decide)).mono fun e w' h => (by obtain ⟨v, he, hb', hv⟩ := h; exact ⟨v, he, hb', hv⟩))
    clear hb hdep hold
    go_simp
  · intro x w1 bA hT hdep hold hb
    refine .inl ⟨⟨49, rfl, (hb 49).trans (hdep 16 (by decide))⟩, ?_⟩
    have e7 : bA.tmps[7]?.getD undef = .pointer (some ⟨b0, 0, none⟩) := hb 7
    have cc0 := (R.out.below hT).q0.cell 0
    have cc1 := (R.out.below hT).q0.cell 1
    refine phx_run (.agg #[.bool false, .slice A0 n0 c0]) ?_ (Below.refl _ _) rfl
    clear hb hdep hold
    go_simp
  · intro x w1 bA hT hdep hold hb
    refine .inl ⟨⟨49, rfl, (hb 49).trans (hdep 16 (by decide))⟩, ?_⟩
    have e8 : bA.tmps[8]?.getD undef = .pointer (some ⟨b1, 0, none⟩) := hb 8
    have cc0 := (R.out.below hT).q1.cell 0
    have cc1 := (R.out.below hT).q1.cell 1
    refine phx_run (.agg #[.bool false, .slice A1 n1 c1]) ?_ (Below.refl _ _) rfl
    clear hb hdep hold
    go_simp
  · intro x w1 bA hT hdep hold hb
    refine .inl ⟨⟨49, rfl, (hb 49).trans (hdep 16 (by decide))⟩, ?_⟩
    have e55 : bA.tmps[55]?.getD undef = .agg #[.bool false, .slice A0 n0 c0] := (hb 55).trans (hdep 22 (by decide))
    have e56 : bA.tmps[56]?.getD undef = .agg #[.bool false, .slice A1 n1 c1] := (hb 56).trans (hdep 23 (by decide))
    refine phx_call ?_ ((AddQB ((R.out.below hT).p0) ((R.out.below hT).p1) (by decide) (by decide) (by decide)).mono fun e w' h => (by obtain ⟨v, he, hb', hv⟩ := h; exact ⟨v, he, hb', hv⟩))
    clear hb hdep hold
    go_simp
  · intro x w1 bA hT hdep hold hb
    refine .inl ⟨⟨49, rfl, (hb 49).trans (hdep 16 (by decide))⟩, ?_⟩
    have e9 : bA.tmps[9]?.getD undef = .pointer (some ⟨b2, 0, none⟩) := hb 9
    have cc0 := (R.out.below hT).q2.cell 0
    have cc1 := (R.out.below hT).q2.cell 1
    refine phx_run (.agg #[.bool false, .slice A2 n2 c2]) ?_ (Below.refl _ _) rfl
    clear hb hdep hold
    go_simp
  · intro x w1 bA hT hdep hold hb
    refine .inl ⟨⟨49, rfl, (hb 49).trans (hdep 16 (by decide))⟩, ?_⟩
    have p57 := hdep 24 (by decide)
    have e57 : bA.tmps[57]?.getD undef = x 24 := hb 57
    generalize x 24 = x57 at *
    have P57 := Lib.hid (show (fun v w => QB w v (L ++ M) 12000 1000 12) x57 w1 from p57)
    clear p57
    have e58 : bA.tmps[58]?.getD undef = .agg #[.bool false, .slice A2 n2 c2] := (hb 58).trans (hdep 25 (by decide))
    refine phx_call ?_ ((AddQB (P57.out) ((R.out.below hT).p2) (by decide) (by decide) (by decide)).mono fun e w' h => (by obtain ⟨v, he, hb', hv⟩ := h; exact ⟨v, he, hb', hv⟩))
    clear hb hdep hold
    go_simp
  · intro x w1 bA hT hdep hold hb
    refine .inl ⟨⟨49, rfl, (hb 49).trans (hdep 16 (by decide))⟩, ?_⟩
    have p54 := hdep 21 (by decide)
    have e54 : bA.tmps[54]?.getD undef = x 21 := hb 54
    generalize x 21 = x54 at *
    have P54 := Lib.hid (show (fun v w => QB w v (L ++ (M ++ N)) 18000 1000 18) x54 w1 from p54)
    clear p54
    have p59 := hdep 26 (by decide)
    have e59 : bA.tmps[59]?.getD undef = x 26 := hb 59
    generalize x 26 = x59 at *
    have P59 := Lib.hid (show (fun v w => QB w v ((L ++ M) ++ N) 18000 1000 18) x59 w1 from p59)
    clear p59
    refine phx_call ?_ ((EqualQB (P54.out) (P59.out) (fun e => by simp only [cg2_append]; omega)).mono fun e w' h => ⟨_, h.1, h.2, rfl⟩)
    clear hb hdep hold
    go_simp
  · intro x w1 bA hT hdep hold hb
    refine .inl ⟨trivial, ?_⟩
    have e49 : bA.tmps[49]?.getD undef = .bool true := (hb 49).trans (hdep 16 (by decide))
    have e60 : bA.tmps[60]?.getD undef = .bool true := (hb 60).trans (hdep 27 (by decide))
    refine phx_run (.bool true) ?_ (Below.refl _ _) rfl
    clear hb hdep hold
    go_simp
  · intro x w1 bA hT hdep hold hb
    refine .inl ⟨trivial, ?_⟩
    have e61 : bA.tmps[61]?.getD undef = .bool true := (hb 61).trans (hdep 28 (by decide))
    refine phx_run (.bool true) ?_ (Below.refl _ _) rfl
    clear hb hdep hold
    go_simp
  · intro x w1 bA hT hdep hold hb
    refine .inl ⟨⟨62, rfl, (hb 62).trans (hdep 29 (by decide))⟩, ?_⟩
    have e7 : bA.tmps[7]?.getD undef = .pointer (some ⟨b0, 0, none⟩) := hb 7
    have cc0 := (R.out.below hT).q0.cell 0
    have cc1 := (R.out.below hT).q0.cell 1
    refine phx_run (.agg #[.bool false, .slice A0 n0 c0]) ?_ (Below.refl _ _) rfl
    clear hb hdep hold
    go_simp
  · intro x w1 bA hT hdep hold hb
    refine .inl ⟨⟨62, rfl, (hb 62).trans (hdep 29 (by decide))⟩, ?_⟩
    have e8 : bA.tmps[8]?.getD undef = .pointer (some ⟨b1, 0, none⟩) := hb 8
    have cc0 := (R.out.below hT).q1.cell 0
    have cc1 := (R.out.below hT).q1.cell 1
    refine phx_run (.agg #[.bool false, .slice A1 n1 c1]) ?_ (Below.refl _ _) rfl
    clear hb hdep hold
    go_simp
  · intro x w1 bA hT hdep hold hb
    refine .inl ⟨⟨62, rfl, (hb 62).trans (hdep 29 (by decide))⟩, ?_⟩
    have e9 : bA.tmps[9]?.getD undef = .pointer (some ⟨b2, 0, none⟩) := hb 9
    have cc0 := (R.out.below hT).q2.cell 0
    have cc1 := (R.out.below hT).q2.cell 1
    refine phx_run (.agg #[.bool false, .slice A2 n2 c2]) ?_ (Below.refl _ _) rfl
    clear hb hdep hold
    go_simp
  · intro x w1 bA hT hdep hold hb
    refine .inl ⟨⟨62, rfl, (hb 62).trans (hdep 29 (by decide))⟩, ?_⟩
    have e64 : bA.tmps[64]?.getD undef = .agg #[.bool false, .slice A1 n1 c1] := (hb 64).trans (hdep 31 (by decide))
    have e65 : bA.tmps[65]?.getD undef = .agg #[.bool false, .slice A2 n2 c2] := (hb 65).trans (hdep 32 (by decide))
    refine phx_call ?_ ((MulQB ((R.out.below hT).p1) ((R.out.below hT).p2) (by decide) (by decide) (by decide)).mono fun e w' h => (by obtain ⟨v, he, hb', hv⟩ := h; exact ⟨v, he, hb', hv⟩))
    clear hb hdep hold
    go_simp
  · intro x w1 bA hT hdep hold hb
    refine .inl ⟨⟨62, rfl, (hb 62).trans (hdep 29 (by decide))⟩, ?_⟩
    have e63 : bA.tmps[63]?.getD undef = .agg #[.bool false, .slice A0 n0 c0] := (hb 63).trans (hdep 30 (by decide))
    have p66 := hdep 33 (by decide)
    have e66 : bA.tmps[66]?.getD undef = x 33 := hb 66
    generalize x 33 = x66 at *
    have P66 := Lib.hid (show (fun v w => QB w v (mulT M N) 36000000 2000 36) x66 w1 from p66)
    clear p66
    refine phx_call ?_ ((MulQB ((R.out.below hT).p0) (P66.out) (by decide) (by decide) (by decide)).mono fun e w' h => (by obtain ⟨v, he, hb', hv⟩ := h; exact ⟨v, he, hb', hv⟩))
    clear hb hdep hold
    go_simp
  · intro x w1 bA hT hdep hold hb
    refine .inl ⟨⟨62, rfl, (hb 62).trans (hdep 29 (by decide))⟩, ?_⟩
    have e7 : bA.tmps[7]?.getD undef = .pointer (some ⟨b0, 0, none⟩) := hb 7
    have cc0 := (R.out.below hT).q0.cell 0
    have cc1 := (R.out.below hT).q0.cell 1
    refine phx_run (.agg #[.bool false, .slice A0 n0 c0]) ?_ (Below.refl _ _) rfl
    clear hb hdep hold
    go_simp
  · intro x w1 bA hT hdep hold hb
    refine .inl ⟨⟨62, rfl, (hb 62).trans (hdep 29 (by decide))⟩, ?_⟩
    have e8 : bA.tmps[8]?.getD undef = .pointer (some ⟨b1, 0, none⟩) := hb 8
    have cc0 := (R.out.below hT).q1.cell 0
    have cc1 := (R.out.below hT).q1.cell 1
    refine phx_run (.agg #[.bool false, .slice A1 n1 c1]) ?_ (Below.refl _ _) rfl
    clear hb hdep hold
    go_simp
  · intro x w1 bA hT hdep hold hb
    refine .inl ⟨⟨62, rfl, (hb 62).trans (hdep 29 (by decide))⟩, ?_⟩
    have e68 : bA.tmps[68]?.getD undef = .agg #[.bool false, .slice A0 n0 c0] := (hb 68).trans (hdep 35 (by decide))
    have e69 : bA.tmps[69]?.getD undef = .agg #[.bool false, .slice A1 n1 c1] := (hb 69).trans (hdep 36 (by decide))
    refine phx_call ?_ ((MulQB ((R.out.below hT).p0) ((R.out.below hT).p1) (by decide) (by decide) (by decide)).mono fun e w' h => (by obtain ⟨v, he, hb', hv⟩ := h; exact ⟨v, he, hb', hv⟩))
    clear hb hdep hold
    go_simp
  · intro x w1 bA hT hdep hold hb
    refine .inl ⟨⟨62, rfl, (hb 62).trans (hdep 29 (by decide))⟩, ?_⟩
    have e9 : bA.tmps[9]?.getD undef = .pointer (some ⟨b2, 0, none⟩) := hb 9
    have cc0 := (R.out.below hT).q2.cell 0
    have cc1 := (R.out.below hT).q2.cell 1
    refine phx_run (.agg #[.bool false, .slice A2 n2 c2]) ?_ (Below.refl _ _) rfl
    clear hb hdep hold
    go_simp
  · intro x w1 bA hT hdep hold hb
    refine .inl ⟨⟨62, rfl, (hb 62).trans (hdep 29 (by decide))⟩, ?_⟩
    have p70 := hdep 37 (by decide)
    have e70 : bA.tmps[70]?.getD undef = x 37 := hb 70
    generalize x 37 = x70 at *
    have P70 := Lib.hid (show (fun v w => QB w v (mulT L M) 36000000 2000 36) x70 w1 from p70)
    clear p70
    have e71 : bA.tmps[71]?.getD undef = .agg #[.bool false, .slice A2 n2 c2] := (hb 71).trans (hdep 38 (by decide))
    refine phx_call ?_ ((MulQB (P70.out) ((R.out.below hT).p2) (by decide) (by decide) (by decide)).mono fun e w' h => (by obtain ⟨v, he, hb', hv⟩ := h; exact ⟨v, he, hb', hv⟩))
    clear hb hdep hold
    go_simp
  · intro x w1 bA hT hdep hold hb
    refine .inl ⟨⟨62, rfl, (hb 62).trans (hdep 29 (by decide))⟩, ?_⟩
    have p67 := hdep 34 (by decide)
    have e67 : bA.tmps[67]?.getD undef = x 34 := hb 67
    generalize x 34 = x67 at *
    have P67 := Lib.hid (show (fun v w => QB w v (mulT L (mulT M N)) 216000000000 3000 216) x67 w1 from p67)
    clear p67
    have p72 := hdep 39 (by decide)
    have e72 : bA.tmps[72]?.getD undef = x 39 := hb 72
    generalize x 39 = x72 at *
    have P72 := Lib.hid (show (fun v w => QB w v (mulT (mulT L M) N) 216000000000 3000 216) x72 w1 from p72)
    clear p72
    refine phx_call ?_ ((EqualQB (P67.out) (P72.out) (fun e => by rw [mulT_assoc])).mono fun e w' h => ⟨_, h.1, h.2, rfl⟩)
    clear hb hdep hold
    go_simp
  · intro x w1 bA hT hdep hold hb
    refine .inl ⟨trivial, ?_⟩
    have e62 : bA.tmps[62]?.getD undef = .bool true := (hb 62).trans (hdep 29 (by decide))
    have e73 : bA.tmps[73]?.getD undef = .bool true := (hb 73).trans (hdep 40 (by decide))
    refine phx_run (.bool true) ?_ (Below.refl _ _) rfl
    clear hb hdep hold
    go_simp
  · intro x w1 bA hT hdep hold hb
    refine .inl ⟨trivial, ?_⟩
    have e74 : bA.tmps[74]?.getD undef = .bool true := (hb 74).trans (hdep 41 (by decide))
    refine phx_run (.bool true) ?_ (Below.refl _ _) rfl
    clear hb hdep hold
    go_simp
  · intro x w1 bA hT hdep hold hb
    refine .inl ⟨⟨75, rfl, (hb 75).trans (hdep 42 (by decide))⟩, ?_⟩
    have e7 : bA.tmps[7]?.getD undef = .pointer (some ⟨b0, 0, none⟩) := hb 7
    have cc0 := (R.out.below hT).q0.cell 0
    have cc1 := (R.out.below hT).q0.cell 1
    refine phx_run (.agg #[.bool false, .slice A0 n0 c0]) ?_ (Below.refl _ _) rfl
    clear hb hdep hold
    go_simp
  · intro x w1 bA hT hdep hold hb
    refine .inl ⟨⟨75, rfl, (hb 75).trans (hdep 42 (by decide))⟩, ?_⟩
    have e8 : bA.tmps[8]?.getD undef = .pointer (some ⟨b1, 0, none⟩) := hb 8
    have cc0 := (R.out.below hT).q1.cell 0
    have cc1 := (R.out.below hT).q1.cell 1
    refine phx_run (.agg #[.bool false, .slice A1 n1 c1]) ?_ (Below.refl _ _) rfl
    clear hb hdep hold
    go_simp
  · intro x w1 bA hT hdep hold hb
    refine .inl ⟨⟨75, rfl, (hb 75).trans (hdep 42 (by decide))⟩, ?_⟩
    have e9 : bA.tmps[9]?.getD undef = .pointer (some ⟨b2, 0, none⟩) := hb 9
    have cc0 := (R.out.below hT).q2.cell 0
    have cc1 := (R.out.below hT).q2.cell 1
    refine phx_run (.agg #[.bool false, .slice A2 n2 c2]) ?_ (Below.refl _ _) rfl
    clear hb hdep hold
    go_simp
  · intro x w1 bA hT hdep hold hb
    refine .inl ⟨⟨75, rfl, (hb 75).trans (hdep 42 (by decide))⟩, ?_⟩
    have e77 : bA.tmps[77]?.getD undef = .agg #[.bool false, .slice A1 n1 c1] := (hb 77).trans (hdep 44 (by decide))
    have e78 : bA.tmps[78]?.getD undef = .agg #[.bool false, .slice A2 n2 c2] := (hb 78).trans (hdep 45 (by decide))
    refine phx_call ?_ ((AddQB ((R.out.below hT).p1) ((R.out.below hT).p2) (by decide) (by decide) (by decide)).mono fun e w' h => (by obtain ⟨v, he, hb', hv⟩ := h; exact ⟨v, he, hb', hv⟩))
    clear hb hdep hold
    go_simp
  · intro x w1 bA hT hdep hold hb
    refine .inl ⟨⟨75, rfl, (hb 75).trans (hdep 42 (by decide))⟩, ?_⟩
    have e76 : bA.tmps[76]?.getD undef = .agg #[.bool false, .slice A0 n0 c0] := (hb 76).trans (hdep 43 (by decide))
    have p79 := hdep 46 (by decide)
    have e79 : bA.tmps[79]?.getD undef = x 46 := hb 79
    generalize x 46 = x79 at *
    have P79 := Lib.hid (show (fun v w => QB w v (M ++ N) 12000 1000 12) x79 w1 from p79)
    clear p79
    refine phx_call ?_ ((MulQB ((R.out.below hT).p0) (P79.out) (by decide) (by decide) (by decide)).mono fun e w' h => (by obtain ⟨v, he, hb', hv⟩ := h; exact ⟨v, he, hb', hv⟩))
    clear hb hdep hold
    go_simp
  · intro x w1 bA hT hdep hold hb
    refine .inl ⟨⟨75, rfl, (hb 75).trans (hdep 42 (by decide))⟩, ?_⟩
    have e7 : bA.tmps[7]?.getD undef = .pointer (some ⟨b0, 0, none⟩) := hb 7
    have cc0 := (R.out.below hT).q0.cell 0
    have cc1 := (R.out.below hT).q0.cell 1
    refine phx_run (.agg #[.bool false, .slice A0 n0 c0]) ?_ (Below.refl _ _) rfl
    clear hb hdep hold
    go_simp
  · intro x w1 bA hT hdep hold hb
    refine .inl ⟨⟨75, rfl, (hb 75).trans (hdep 42 (by decide))⟩, ?_⟩
    have e8 : bA.tmps[8]?.getD undef = .pointer (some ⟨b1, 0, none⟩) := hb 8
    have cc0 := (R.out.below hT).q1.cell 0
    have cc1 := (R.out.below hT).q1.cell 1
    refine phx_run (.agg #[.bool false, .slice A1 n1 c1]) ?_ (Below.refl _ _) rfl
    clear hb hdep hold
    go_simp
  · intro x w1 bA hT hdep hold hb
    refine .inl ⟨⟨75, rfl, (hb 75).trans (hdep 42 (by decide))⟩, ?_⟩
    have e81 : bA.tmps[81]?.getD undef = .agg #[.bool false, .slice A0 n0 c0] := (hb 81).trans (hdep 48 (by decide))
    have e82 : bA.tmps[82]?.getD undef = .agg #[.bool false, .slice A1 n1 c1] := (hb 82).trans (hdep 49 (by decide))
    refine phx_call ?_ ((MulQB ((R.out.below hT).p0) ((R.out.below hT).p1) (by decide) (by decide) (by decide)).mono fun e w' h => (by obtain ⟨v, he, hb', hv⟩ := h; exact ⟨v, he, hb', hv⟩))
    clear hb hdep hold
    go_simp
  · intro x w1 bA hT hdep hold hb
    refine .inl ⟨⟨75, rfl, (hb 75).trans (hdep 42 (by decide))⟩, ?_⟩
    have e7 : bA.tmps[7]?.getD undef = .pointer (some ⟨b0, 0, none⟩) := hb 7
    have cc0 := (R.out.below hT).q0.cell 0
    have cc1 := (R.out.below hT).q0.cell 1
    refine phx_run (.agg #[.bool false, .slice A0 n0 c0]) ?_ (Below.refl _ _) rfl
    clear hb hdep hold
    go_simp
  · intro x w1 bA hT hdep hold hb
    refine .inl ⟨⟨75, rfl, (hb 75).trans (hdep 42 (by decide))⟩, ?_⟩
    have e9 : bA.tmps[9]?.getD undef = .pointer (some ⟨b2, 0, none⟩) := hb 9
    have cc0 := (R.out.below hT).q2.cell 0
    have cc1 := (R.out.below hT).q2.cell 1
    refine phx_run (.agg #[.bool false, .slice A2 n2 c2]) ?_ (Below.refl _ _) rfl
    clear hb hdep hold
    go_simp
  · intro x w1 bA hT hdep hold hb
    refine .inl ⟨⟨75, rfl, (hb 75).trans (hdep 42 (by decide))⟩, ?_⟩
    have e84 : bA.tmps[84]?.getD undef = .agg #[.bool false, .slice A0 n0 c0] := (hb 84).trans (hdep 51 (by decide))
    have e85 : bA.tmps[85]?.getD undef = .agg #[.bool false, .slice A2 n2 c2] := (hb 85).trans (hdep 52 (by decide))
    refine phx_call ?_ ((MulQB ((R.out.below hT).p0) ((R.out.below hT).p2) (by decide) (by decide) (by decide)).mono fun e w' h => (by obtain ⟨v, he, hb', hv⟩ := h; exact ⟨v, he, hb', hv⟩))
    clear hb hdep hold
    go_simp
  · intro x w1 bA hT hdep hold hb
    refine .inl ⟨⟨75, rfl, (hb 75).trans (hdep 42 (by decide))⟩, ?_⟩
    have p83 := hdep 50 (by decide)
    have e83 : bA.tmps[83]?.getD undef = x 50 := hb 83
    generalize x 50 = x83 at *
    have P83 := Lib.hid (show (fun v w => QB w v (mulT L M) 36000000 2000 36) x83 w1 from p83)
    clear p83
    have p86 := hdep 53 (by decide)
    have e86 : bA.tmps[86]?.getD undef = x 53 := hb 86
    generalize x 53 = x86 at *
    have P86 := Lib.hid (show (fun v w => QB w v (mulT L N) 36000000 2000 36) x86 w1 from p86)
    clear p86
    refine phx_call ?_ ((AddQB (P83.out) (P86.out) (by decide) (by decide) (by decide)).mono fun e w' h => (by obtain ⟨v, he, hb', hv⟩ := h; exact ⟨v, he, hb', hv⟩))
    clear hb hdep hold
    go_simp
  · intro x w1 bA hT hdep hold hb
    refine .inl ⟨⟨75, rfl, (hb 75).trans (hdep 42 (by decide))⟩, ?_⟩
    have p80 := hdep 47 (by decide)
    have e80 : bA.tmps[80]?.getD undef = x 47 := hb 80
    generalize x 47 = x80 at *
    have P80 := Lib.hid (show (fun v w => QB w v (mulT L (M ++ N)) 72000000 2000 72) x80 w1 from p80)
    clear p80
    have p87 := hdep 54 (by decide)
    have e87 : bA.tmps[87]?.getD undef = x 54 := hb 87
    generalize x 54 = x87 at *
    have P87 := Lib.hid (show (fun v w => QB w v ((mulT L M) ++ (mulT L N)) 72000000 2000 72) x87 w1 from p87)
    clear p87
    refine phx_call ?_ ((EqualQB (P80.out) (P87.out) (fun e => by rw [mulT_add, cg2_append])).mono fun e w' h => ⟨_, h.1, h.2, rfl⟩)
    clear hb hdep hold
    go_simp
  · intro x w1 bA hT hdep hold hb
    refine .inl ⟨trivial, ?_⟩
    have e75 : bA.tmps[75]?.getD undef = .bool true := (hb 75).trans (hdep 42 (by decide))
    have e88 : bA.tmps[88]?.getD undef = .bool true := (hb 88).trans (hdep 55 (by decide))
    refine phx_run (.bool true) ?_ (Below.refl _ _) rfl
    clear hb hdep hold
    go_simp
  · intro x w1 bA hT hdep hold hb
    refine .inl ⟨trivial, ?_⟩
    have e89 : bA.tmps[89]?.getD undef = .bool true := (hb 89).trans (hdep 56 (by decide))
    refine phx_run (.bool true) ?_ (Below.refl _ _) rfl
    clear hb hdep hold
    go_simp
  · intro x w1 bA hT hdep hold hb
    refine .inl ⟨⟨90, rfl, (hb 90).trans (hdep 57 (by decide))⟩, ?_⟩
    have e7 : bA.tmps[7]?.getD undef = .pointer (some ⟨b0, 0, none⟩) := hb 7
    have cc0 := (R.out.below hT).q0.cell 0
    have cc1 := (R.out.below hT).q0.cell 1
    refine phx_run (.agg #[.bool false, .slice A0 n0 c0]) ?_ (Below.refl _ _) rfl
    clear hb hdep hold
    go_simp
  · intro x w1 bA hT hdep hold hb
    refine .inl ⟨⟨90, rfl, (hb 90).trans (hdep 57 (by decide))⟩, ?_⟩
    have e8 : bA.tmps[8]?.getD undef = .pointer (some ⟨b1, 0, none⟩) := hb 8
    have cc0 := (R.out.below hT).q1.cell 0
    have cc1 := (R.out.below hT).q1.cell 1
    refine phx_run (.agg #[.bool false, .slice A1 n1 c1]) ?_ (Below.refl _ _) rfl
    clear hb hdep hold
    go_simp
  · intro x w1 bA hT hdep hold hb
    refine .inl ⟨⟨90, rfl, (hb 90).trans (hdep 57 (by decide))⟩, ?_⟩
    have e91 : bA.tmps[91]?.getD undef = .agg #[.bool false, .slice A0 n0 c0] := (hb 91).trans (hdep 58 (by decide))
    have e92 : bA.tmps[92]?.getD undef = .agg #[.bool false, .slice A1 n1 c1] := (hb 92).trans (hdep 59 (by decide))
    refine phx_call ?_ ((AddQB ((R.out.below hT).p0) ((R.out.below hT).p1) (by decide) (by decide) (by decide)).mono fun e w' h => (by obtain ⟨v, he, hb', hv⟩ := h; exact ⟨v, he, hb', hv⟩))
    clear hb hdep hold
    go_simp
  · intro x w1 bA hT hdep hold hb
    refine .inl ⟨⟨90, rfl, (hb 90).trans (hdep 57 (by decide))⟩, ?_⟩
    have e8 : bA.tmps[8]?.getD undef = .pointer (some ⟨b1, 0, none⟩) := hb 8
    have cc0 := (R.out.below hT).q1.cell 0
    have cc1 := (R.out.below hT).q1.cell 1
    refine phx_run (.agg #[.bool false, .slice A1 n1 c1]) ?_ (Below.refl _ _) rfl
    clear hb hdep hold
    go_simp
  · intro x w1 bA hT hdep hold hb
    refine .inl ⟨⟨90, rfl, (hb 90).trans (hdep 57 (by decide))⟩, ?_⟩
    have p93 := hdep 60 (by decide)
    have e93 : bA.tmps[93]?.getD undef = x 60 := hb 93
    generalize x 60 = x93 at *
    have P93 := Lib.hid (show (fun v w => QB w v (L ++ M) 12000 1000 12) x93 w1 from p93)
    clear p93
    have e94 : bA.tmps[94]?.getD undef = .agg #[.bool false, .slice A1 n1 c1] := (hb 94).trans (hdep 61 (by decide))
    refine phx_call ?_ ((SubQB (P93.out) ((R.out.below hT).p1) (by decide) (by decide) (by decide)).mono fun e w' h => (by obtain ⟨v, he, hb', hv⟩ := h; exact ⟨v, he, hb', hv⟩))
    clear hb hdep hold
    go_simp
  · intro x w1 bA hT hdep hold hb
    refine .inl ⟨⟨90, rfl, (hb 90).trans (hdep 57 (by decide))⟩, ?_⟩
    have e7 : bA.tmps[7]?.getD undef = .pointer (some ⟨b0, 0, none⟩) := hb 7
    have cc0 := (R.out.below hT).q0.cell 0
    have cc1 := (R.out.below hT).q0.cell 1
    refine phx_run (.agg #[.bool false, .slice A0 n0 c0]) ?_ (Below.refl _ _) rfl
    clear hb hdep hold
    go_simp
  · intro x w1 bA hT hdep hold hb
    refine .inl ⟨⟨90, rfl, (hb 90).trans (hdep 57 (by decide))⟩, ?_⟩
    have p95 := hdep 62 (by decide)
    have e95 : bA.tmps[95]?.getD undef = x 62 := hb 95
    generalize x 62 = x95 at *
    have P95 := Lib.hid (show (fun v w => QB w v ((L ++ M) ++ negT M) 18000 1000 18) x95 w1 from p95)
    clear p95
    have e96 : bA.tmps[96]?.getD undef = .agg #[.bool false, .slice A0 n0 c0] := (hb 96).trans (hdep 63 (by decide))
    refine phx_call ?_ ((EqualQB (P95.out) ((R.out.below hT).p0) (fun e => by simp only [cg2_append, cg2_neg]; omega)).mono fun e w' h => ⟨_, h.1, h.2, rfl⟩)
    clear hb hdep hold
    go_simp
  · intro x w1 bA hT hdep hold hb
    refine .inl ⟨trivial, ?_⟩
    have e90 : bA.tmps[90]?.getD undef = .bool true := (hb 90).trans (hdep 57 (by decide))
    have e97 : bA.tmps[97]?.getD undef = .bool true := (hb 97).trans (hdep 64 (by decide))
    refine phx_run (.bool true) ?_ (Below.refl _ _) rfl
    clear hb hdep hold
    go_simp
  · intro x w1 bA hT hdep hold hb
    refine .inl ⟨trivial, ?_⟩
    have e98 : bA.tmps[98]?.getD undef = .bool true := (hb 98).trans (hdep 65 (by decide))
    refine phx_run (.bool true) ?_ (Below.refl _ _) rfl
    clear hb hdep hold
    go_simp
  · intro x w1 bA hT hdep hold hb
    refine .inl ⟨⟨99, rfl, (hb 99).trans (hdep 66 (by decide))⟩, ?_⟩
    have e7 : bA.tmps[7]?.getD undef = .pointer (some ⟨b0, 0, none⟩) := hb 7
    have cc0 := (R.out.below hT).q0.cell 0
    have cc1 := (R.out.below hT).q0.cell 1
    refine phx_run (.agg #[.bool false, .slice A0 n0 c0]) ?_ (Below.refl _ _) rfl
    clear hb hdep hold
    go_simp
  · intro x w1 bA hT hdep hold hb
    refine .inl ⟨⟨99, rfl, (hb 99).trans (hdep 66 (by decide))⟩, ?_⟩
    have e10 : bA.tmps[10]?.getD undef = .pointer (some ⟨b3, 0, none⟩) := hb 10
    have cc0 := (R.out.below hT).q3.cell 0
    have cc1 := (R.out.below hT).q3.cell 1
    refine phx_run (.agg #[.bool false, .slice A3 n3 c3]) ?_ (Below.refl _ _) rfl
    clear hb hdep hold
    go_simp
  · intro x w1 bA hT hdep hold hb
    refine .inl ⟨⟨99, rfl, (hb 99).trans (hdep 66 (by decide))⟩, ?_⟩
    have e100 : bA.tmps[100]?.getD undef = .agg #[.bool false, .slice A0 n0 c0] := (hb 100).trans (hdep 67 (by decide))
    have e101 : bA.tmps[101]?.getD undef = .agg #[.bool false, .slice A3 n3 c3] := (hb 101).trans (hdep 68 (by decide))
    refine phx_call ?_ ((MulQB ((R.out.below hT).p0) ((R.out.below hT).p3) (by decide) (by decide) (by decide)).mono fun e w' h => (by obtain ⟨v, he, hb', hv⟩ := h; exact ⟨v, he, hb', hv⟩))
    clear hb hdep hold
    go_simp
  · intro x w1 bA hT hdep hold hb
    refine .inl ⟨⟨99, rfl, (hb 99).trans (hdep 66 (by decide))⟩, ?_⟩
    have e7 : bA.tmps[7]?.getD undef = .pointer (some ⟨b0, 0, none⟩) := hb 7
    have cc0 := (R.out.below hT).q0.cell 0
    have cc1 := (R.out.below hT).q0.cell 1
    refine phx_run (.agg #[.bool false, .slice A0 n0 c0]) ?_ (Below.refl _ _) rfl
    clear hb hdep hold
    go_simp
  · intro x w1 bA hT hdep hold hb
    refine .inl ⟨⟨99, rfl, (hb 99).trans (hdep 66 (by decide))⟩, ?_⟩
    have p102 := hdep 69 (by decide)
    have e102 : bA.tmps[102]?.getD undef = x 69 := hb 102
    generalize x 69 = x102 at *
    have P102 := Lib.hid (show (fun v w => QB w v (mulT L [((0, 0), 1)]) 6000 1000 6) x102 w1 from p102)
    clear p102
    have e103 : bA.tmps[103]?.getD undef = .agg #[.bool false, .slice A0 n0 c0] := (hb 103).trans (hdep 70 (by decide))
    refine phx_call ?_ ((EqualQB (P102.out) ((R.out.below hT).p0) (fun e => cg2_mul_one _ e)).mono fun e w' h => ⟨_, h.1, h.2, rfl⟩)
    clear hb hdep hold
    go_simp
  · intro x w1 bA hT hdep hold hb
    refine .inl ⟨trivial, ?_⟩
    have e99 : bA.tmps[99]?.getD undef = .bool true := (hb 99).trans (hdep 66 (by decide))
    have e104 : bA.tmps[104]?.getD undef = .bool true := (hb 104).trans (hdep 71 (by decide))
    refine phx_run (.bool true) ?_ (Below.refl _ _) rfl
    clear hb hdep hold
    go_simp
  · intro x w1 bA hT hdep hold hb
    refine .inl ⟨trivial, ?_⟩
    have e105 : bA.tmps[105]?.getD undef = .bool true := (hb 105).trans (hdep 72 (by decide))
    refine phx_run (.bool true) ?_ (Below.refl _ _) rfl
    clear hb hdep hold
    go_simp
  · intro x w1 bA hT hdep hold hb
    refine .inl ⟨⟨106, rfl, (hb 106).trans (hdep 73 (by decide))⟩, ?_⟩
    have e7 : bA.tmps[7]?.getD undef = .pointer (some ⟨b0, 0, none⟩) := hb 7
    have cc0 := (R.out.below hT).q0.cell 0
    have cc1 := (R.out.below hT).q0.cell 1
    refine phx_run (.agg #[.bool false, .slice A0 n0 c0]) ?_ (Below.refl _ _) rfl
    clear hb hdep hold
    go_simp
  · intro x w1 bA hT hdep hold hb
    refine .inl ⟨⟨106, rfl, (hb 106).trans (hdep 73 (by decide))⟩, ?_⟩
    have e7 : bA.tmps[7]?.getD undef = .pointer (some ⟨b0, 0, none⟩) := hb 7
    have cc0 := (R.out.below hT).q0.cell 0
    have cc1 := (R.out.below hT).q0.cell 1
    refine phx_run (.agg #[.bool false, .slice A0 n0 c0]) ?_ (Below.refl _ _) rfl
    clear hb hdep hold
    go_simp
  · intro x w1 bA hT hdep hold hb
    refine .inl ⟨⟨106, rfl, (hb 106).trans (hdep 73 (by decide))⟩, ?_⟩
    have e107 : bA.tmps[107]?.getD undef = .agg #[.bool false, .slice A0 n0 c0] := (hb 107).trans (hdep 74 (by decide))
    have e108 : bA.tmps[108]?.getD undef = .agg #[.bool false, .slice A0 n0 c0] := (hb 108).trans (hdep 75 (by decide))
    refine phx_call ?_ ((SubQB ((R.out.below hT).p0) ((R.out.below hT).p0) (by decide) (by decide) (by decide)).mono fun e w' h => (by obtain ⟨v, he, hb', hv⟩ := h; exact ⟨v, he, hb', hv⟩))
    clear hb hdep hold
    go_simp
  · intro x w1 bA hT hdep hold hb
    refine .inl ⟨⟨106, rfl, (hb 106).trans (hdep 73 (by decide))⟩, ?_⟩
    refine phx_run (.agg #[.bool false, .slice none 0 0]) ?_ (Below.refl _ _) rfl
    clear hb hdep hold
    go_simp
  · intro x w1 bA hT hdep hold hb
    refine .inl ⟨⟨106, rfl, (hb 106).trans (hdep 73 (by decide))⟩, ?_⟩
    have p109 := hdep 76 (by decide)
    have e109 : bA.tmps[109]?.getD undef = x 76 := hb 109
    generalize x 76 = x109 at *
    have P109 := Lib.hid (show (fun v w => QB w v (L ++ negT L) 12000 1000 12) x109 w1 from p109)
    clear p109
    have e110 : bA.tmps[110]?.getD undef = .agg #[.bool false, .slice none 0 0] := (hb 110).trans (hdep 77 (by decide))
    refine phx_call ?_ ((EqualQB (P109.out) ((⟨PL.zero w1, Bd2.nil 0 0, Nat.le_refl _⟩ : QB w1 (.agg #[.bool false, .slice none 0 0]) [] 0 0 0)) (fun e => by rw [cg2_append, cg2_neg, cg2_nil]; omega)).mono fun e w' h => ⟨_, h.1, h.2, rfl⟩)
    clear hb hdep hold
    go_simp
  · intro x w1 bA hT hdep hold hb
    refine .inl ⟨trivial, ?_⟩
    have e106 : bA.tmps[106]?.getD undef = .bool true := (hb 106).trans (hdep 73 (by decide))
    have e111 : bA.tmps[111]?.getD undef = .bool true := (hb 111).trans (hdep 78 (by decide))
    refine phx_run (.bool true) ?_ (Below.refl _ _) rfl
    clear hb hdep hold
    go_simp
  · intro x w1 bA hT hdep hold hb
    refine .inl ⟨trivial, ?_⟩
    have e112 : bA.tmps[112]?.getD undef = .bool true := (hb 112).trans (hdep 79 (by decide))
    refine phx_run (.bool true) ?_ (Below.refl _ _) rfl
    clear hb hdep hold
    go_simp
  · intro x w1 bA hT hdep hold hb
    refine .inl ⟨⟨113, rfl, (hb 113).trans (hdep 80 (by decide))⟩, ?_⟩
    have e7 : bA.tmps[7]?.getD undef = .pointer (some ⟨b0, 0, none⟩) := hb 7
    have cc0 := (R.out.below hT).q0.cell 0
    have cc1 := (R.out.below hT).q0.cell 1
    refine phx_run (.agg #[.bool false, .slice A0 n0 c0]) ?_ (Below.refl _ _) rfl
    clear hb hdep hold
    go_simp
  · intro x w1 bA hT hdep hold hb
    refine .inl ⟨⟨113, rfl, (hb 113).trans (hdep 80 (by decide))⟩, ?_⟩
    have e8 : bA.tmps[8]?.getD undef = .pointer (some ⟨b1, 0, none⟩) := hb 8
    have cc0 := (R.out.below hT).q1.cell 0
    have cc1 := (R.out.below hT).q1.cell 1
    refine phx_run (.agg #[.bool false, .slice A1 n1 c1]) ?_ (Below.refl _ _) rfl
    clear hb hdep hold
    go_simp
  · intro x w1 bA hT hdep hold hb
    refine .inl ⟨⟨113, rfl, (hb 113).trans (hdep 80 (by decide))⟩, ?_⟩
    have e114 : bA.tmps[114]?.getD undef = .agg #[.bool false, .slice A0 n0 c0] := (hb 114).trans (hdep 81 (by decide))
    have e115 : bA.tmps[115]?.getD undef = .agg #[.bool false, .slice A1 n1 c1] := (hb 115).trans (hdep 82 (by decide))
    refine phx_call ?_ ((MulQB ((R.out.below hT).p0) ((R.out.below hT).p1) (by decide) (by decide) (by decide)).mono fun e w' h => (by obtain ⟨v, he, hb', hv⟩ := h; exact ⟨v, he, hb', hv⟩))
    clear hb hdep hold
    go_simp
  · intro x w1 bA hT hdep hold hb
    refine .inl ⟨⟨113, rfl, (hb 113).trans (hdep 80 (by decide))⟩, ?_⟩
    have e9 : bA.tmps[9]?.getD undef = .pointer (some ⟨b2, 0, none⟩) := hb 9
    have cc0 := (R.out.below hT).q2.cell 0
    have cc1 := (R.out.below hT).q2.cell 1
    refine phx_run (.agg #[.bool false, .slice A2 n2 c2]) ?_ (Below.refl _ _) rfl
    clear hb hdep hold
    go_simp
  · intro x w1 bA hT hdep hold hb
    refine .inl ⟨⟨113, rfl, (hb 113).trans (hdep 80 (by decide))⟩, ?_⟩
    have p116 := hdep 83 (by decide)
    have e116 : bA.tmps[116]?.getD undef = x 83 := hb 116
    generalize x 83 = x116 at *
    have P116 := Lib.hid (show (fun v w => QB w v (mulT L M) 36000000 2000 36) x116 w1 from p116)
    clear p116
    have e117 : bA.tmps[117]?.getD undef = .agg #[.bool false, .slice A2 n2 c2] := (hb 117).trans (hdep 84 (by decide))
    refine phx_call ?_ ((MulQB (P116.out) ((R.out.below hT).p2) (by decide) (by decide) (by decide)).mono fun e w' h => (by obtain ⟨v, he, hb', hv⟩ := h; exact ⟨v, he, hb', hv⟩))
    clear hb hdep hold
    go_simp
  · intro x w1 bA hT hdep hold hb
    refine .inl ⟨⟨113, rfl, (hb 113).trans (hdep 80 (by decide))⟩, ?_⟩
    have p118 := hdep 85 (by decide)
    have e118 : bA.tmps[118]?.getD undef = x 85 := hb 118
    generalize x 85 = x118 at *
    have P118 := Lib.hid (show (fun v w => QB w v (mulT (mulT L M) N) 216000000000 3000 216) x118 w1 from p118)
    clear p118
    refine phx_call ?_ ((BigPL _ _ _ (P118.out).1).mono fun e w' h => ⟨_, h.1, h.2, rfl⟩)
    clear hb hdep hold
    go_simp
  · intro x w1 bA hT hdep hold hb
    refine .inl ⟨⟨113, rfl, (hb 113).trans (hdep 80 (by decide))⟩, ?_⟩
    have e119 : bA.tmps[119]?.getD undef = .bool false := (hb 119).trans (hdep 86 (by decide))
    refine phx_run (.bool true) ?_ (Below.refl _ _) rfl
    clear hb hdep hold
    go_simp
  · intro x w1 bA hT hdep hold hb
    refine .inl ⟨trivial, ?_⟩
    have e113 : bA.tmps[113]?.getD undef = .bool true := (hb 113).trans (hdep 80 (by decide))
    have e120 : bA.tmps[120]?.getD undef = .bool true := (hb 120).trans (hdep 87 (by decide))
    refine phx_run (.bool true) ?_ (Below.refl _ _) rfl
    clear hb hdep hold
    go_simp
  · intro x w1 bA hT hdep hold hb
    refine .inl ⟨trivial, ?_⟩
    have e121 : bA.tmps[121]?.getD undef = .bool true := (hb 121).trans (hdep 88 (by decide))
    refine phx_run (.bool true) ?_ (Below.refl _ _) rfl
    clear hb hdep hold
    go_simp
  intro x w1 hT hall
  have x89e : x 89 = .bool true := hall 89 (by decide)
  clear hall
  refine end_look 6 89 (by kernel_rfl) (by kernel_rfl) (by kernel_rfl) x89e (fun T hT6 => ?_)
  clear x89e
  have HBF := Lib.hid ((R.out.below hT).bl)
  clear hT
  go_wp2_with fail
  go_ret
  exact ⟨by simp only [Array.getD_eq_getD_getElem?, hT6], HBF.out⟩
end Go.Proofs.YtbfggncmjdhapaaGreatDoor
