/- Shift of a polynomial told by a list of terms. -/
/- Shift and Flip with numbers; shifts as products. -/
/- BivariateMaps: the law's walk. -/
import Derived.Test.YtbfggncmjdhapaaGreatDoorZBsh
import Derived.Test.YtbfggncmjdhapaaGreatDoorZLbr
namespace Go.Proofs.YtbfggncmjdhapaaGreatDoor
open Go.RowKit
set_option linter.unusedVariables false

theorem cg2_sh (a z : Int) (l : List T2) (e : K2) : cg2 (l.map (shT a z)) e = cg2 l (e.1 - a, e.2 - z) := by
  induction l with
  | nil => rfl
  | cons t l ih =>
    rw [List.map_cons, cg2_cons, cg2_cons, ih]
    have h : ((shT a z t).1 = e) = (t.1 = (e.1 - a, e.2 - z)) := by
      obtain ⟨⟨x, y⟩, c⟩ := t
      obtain ⟨e1, e2⟩ := e
      simp only [shT, Prod.mk.injEq, eq_iff_iff]
      omega
    simp only [h]
    rfl
theorem asum2_sh (a z : Int) (l : List T2) : asum2 (l.map (shT a z)) = asum2 l := by
  induction l with
  | nil => rfl
  | cons t l ih => rw [List.map_cons, asum2, asum2, ih]; rfl
theorem Ebd.sh {N K : Nat} {a z : Int} {l : List T2} (h : Ebd N l) (ha : a.natAbs ≤ K) (hz : z.natAbs ≤ K) : Ebd (N + K) (l.map (shT a z)) := fun t ht => by
  obtain ⟨s, hs, rfl⟩ := List.mem_map.1 ht
  have := h s hs
  simp only [shT]
  omega
theorem Can2.sh {l : List T2} (h : Can2 l) (a z : Int) : Can2 (l.map (shT a z)) := by
  refine ⟨?_, fun t ht => ?_⟩
  · have h1 := h.srt
    unfold Srt2 at h1 ⊢
    rw [List.pairwise_map]
    refine h1.imp fun {x y} hxy => ?_
    unfold kb at hxy ⊢
    simp only [shT]
    omega
  · obtain ⟨s, hs, rfl⟩ := List.mem_map.1 ht
    exact h.nz s hs
theorem ShiftPL {S N : Nat} (K : Nat) (vp : Value) (L : List T2) (a z : Int) (w : World) (hp : PL w vp L) (bp : Bd2 S N L) (ha : a.natAbs ≤ K) (hz : z.natAbs ≤ K) (hS : S ≤ 1125899906842624) (hN : N + K ≤ 1048576) :
    Calls Tryz.prog 17 #[vp, .int .i64 a, .int .i64 z] w (PLR (L.map (shT a z)) w) := by
  obtain ⟨l, h1, h2, h3, h4⟩ := hp
  obtain ⟨a1, a2, a3⟩ := can_bd h2 h4 bp
  refine (bShift_any vp (some l) a z w h1 ⟨h2, h3⟩ (by unfold lenB; simpa using a3) (by omega) (by omega)).mono ?_
  rintro e w' ⟨v, rfl, hv, hb⟩
  have e2 := a2.sh ha hz
  have hok : l.all (shOk a z) = true := List.all_eq_true.2 fun t ht => by
    have := e2 (shT a z t) (List.mem_map_of_mem ht)
    simp only [shT] at this
    unfold shOk
    rw [Bool.and_eq_true, wiB_in, wiB_in]
    omega
  rw [shB, if_pos hok] at hv
  refine ⟨v, rfl, hb, _, hv, h2.sh a z, ⟨fun t ht => ?_, fun t ht => ?_, fun t ht => ?_⟩, fun e => by rw [cg2_sh, cg2_sh, h4]⟩
  · obtain ⟨s, hs, rfl⟩ := List.mem_map.1 ht
    exact h3.co s hs
  · have := e2 t ht; omega
  · have := e2 t ht; omega
end Go.Proofs.YtbfggncmjdhapaaGreatDoor

namespace Go.Proofs.YtbfggncmjdhapaaGreatDoor
open Go.RowKit
set_option linter.unusedVariables false

theorem sh_mul (l : List T2) (a z : Int) (e : K2) : cg2 (l.map (shT a z)) e = cg2 (mulT l [((a, z), 1)]) e := by
  rw [mulT_single, mulT_cons, mulT_nil, List.append_nil]
  congr 1
  refine List.map_congr_left fun t _ => ?_
  obtain ⟨⟨x, y⟩, c⟩ := t
  simp only [shT, kadd, Prod.mk.injEq, Int.one_mul, and_true]
  omega
theorem sh_back (l : List T2) (a z : Int) : (l.map (shT a z)).map (shT (-a) (-z)) = l := by
  rw [List.map_map]
  have : (shT (-a) (-z) ∘ shT a z) = id := by
    funext t
    obtain ⟨⟨x, y⟩, c⟩ := t
    simp only [Function.comp, shT, id, Prod.mk.injEq, and_true]
    omega
  rw [this, List.map_id]
end Go.Proofs.YtbfggncmjdhapaaGreatDoor

namespace Go.Proofs.YtbfggncmjdhapaaGreatDoor
open Go.RowKit
set_option linter.unusedVariables false

section
variable {w : World} {vp : Value} {L : List T2} {S N n : Nat}
theorem ShiftQB (K : Nat) (a z : Int) (hp : QB w vp L S N n) (ha : a.natAbs ≤ K) (hz : z.natAbs ≤ K) (hS : S ≤ 1125899906842624) (hN : N + K ≤ 1048576) : Calls Tryz.prog 17 #[vp, .int .i64 a, .int .i64 z] w (QBR (L.map (shT a z)) S (N + K) n w) := by
  refine (ShiftPL K vp L a z w hp.1 hp.2.1 ha hz hS hN).mono ?_
  rintro e w' ⟨v, he, hb, hv⟩
  exact ⟨v, he, hb, hv, ⟨by rw [asum2_sh]; exact hp.2.1.su, hp.2.1.eb.sh ha hz, by simpa using hp.2.1.ln⟩, by simpa using hp.2.2⟩
theorem FlipQB (hp : QB w vp L S N n) (hS : S ≤ 1125899906842624) (hN : N ≤ 1048576) : Calls Tryz.prog 29 #[vp] w (QBR (L.map flT) S N n w) := by
  refine (FlipPL vp L w hp.1 hp.2.1 hS hN).mono ?_
  rintro e w' ⟨v, he, hb, hv⟩
  exact ⟨v, he, hb, hv, ⟨by rw [asum2_fl]; exact hp.2.1.su, hp.2.1.eb.fl, by simpa using hp.2.1.ln⟩, by simpa using hp.2.2⟩
theorem TermQB (K : Nat) (a z : Int) (w : World) (ha : a.natAbs ≤ K) (hz : z.natAbs ≤ K) (hN : K ≤ 1048576) : Calls Tryz.prog 11 #[.int .i64 1, .int .i64 a, .int .i64 z] w (QBR [((a, z), 1)] 1 K 1 w) := by
  have hb : Bd2 1 K [((a, z), 1)] := ⟨by simp [asum2], (by intro t ht; simp at ht; subst ht; simp only; omega), by simp⟩
  refine (TermPL (S := 1) (N := K) 1 a z w hb (by decide) hN).mono ?_
  rintro e w' ⟨v, he, hb', hv⟩
  exact ⟨v, he, hb', hv, hb, by simp⟩
end
/-- the law's polynomials, boxed -/
structure Rg3 (w W : World) (b0 b1 b2 : Nat) (A0 A1 A2 : Option Addr) (n0 c0 n1 c1 n2 c2 : Nat) (L M : List T2) (a z : Int) : Prop where
  q0 : Arr W b0 27 [.bool false, .slice A0 n0 c0]
  q1 : Arr W b1 27 [.bool false, .slice A1 n1 c1]
  q2 : Arr W b2 27 [.bool false, .slice A2 n2 c2]
  p0 : QB W (.agg #[.bool false, .slice A0 n0 c0]) L 6000 1000 6
  p1 : QB W (.agg #[.bool false, .slice A1 n1 c1]) M 6000 1000 6
  p2 : QB W (.agg #[.bool false, .slice A2 n2 c2]) (L.map (shT a z)) 6000 33768 6
  bl : Below w.heap.size w W
theorem Rg3.below {w W W' : World} {b0 b1 b2 : Nat} {A0 A1 A2 : Option Addr} {n0 c0 n1 c1 n2 c2 : Nat} {L M : List T2} {a z : Int} (h : Rg3 w W b0 b1 b2 A0 A1 A2 n0 c0 n1 c1 n2 c2 L M a z) (hb : Below W.heap.size W W') : Rg3 w W' b0 b1 b2 A0 A1 A2 n0 c0 n1 c1 n2 c2 L M a z :=
  ⟨h.q0.below hb h.q0.lt, h.q1.below hb h.q1.lt, h.q2.below hb h.q2.lt, h.p0.below hb, h.p1.below hb, h.p2.below hb, h.bl.trans (hb.mono h.bl.size)⟩
set_option maxHeartbeats 8000000 in
set_option maxRecDepth 100000 in
theorem maps_law (v0 v1 : Value) (L M : List T2) (a z : Int) (w : World) (h0 : SlA tB w v0 L) (h1 : SlA tB w v1 M) (ha : -32768 ≤ a ∧ a ≤ 32767) (hz : -32768 ≤ z ∧ z ≤ 32767) (l0 : L.length ≤ 9223372036854775807) (i0 : I64T L) (l1 : M.length ≤ 9223372036854775807) (i1 : I64T M) (ht : Tb w) :
    Calls Tryz.prog 6 #[v0, v1, .int .i16 a, .int .i16 z] w fun e w' => e = .returned (.bool true) ∧ Below w.heap.size w w' := by
  have HA := Lib.hid (awake13 w ht)
  have HS0 := Lib.hid (fun W (hb : Below w.heap.size w W) => smallL_any v0 L W (h0.below hb) l0)
  have HS1 := Lib.hid (fun W (hb : Below w.heap.size w W) => smallL_any v1 M W (h1.below hb) l1)
  have HO0 := Lib.hid (fun W (hb : Below w.heap.size w W) (k : L.length ≤ 6) => of_any v0 L W (h0.below hb) i0 (by omega))
  have HO1 := Lib.hid (fun W (hb : Below w.heap.size w W) (k : M.length ≤ 6) => of_any v1 M W (h1.below hb) i1 (by omega))
  obtain ⟨S0, hS0⟩ : ∃ S, S = smL L := ⟨_, rfl⟩
  obtain ⟨S1, hS1⟩ : ∃ S, S = smL M := ⟨_, rfl⟩
  rw [← hS0] at HS0
  rw [← hS1] at HS1
  have E0 := Lib.hid hS0
  have E1 := Lib.hid hS1
  have HKA := Lib.hid (show a.natAbs ≤ 32768 by omega)
  have HKZ := Lib.hid (show z.natAbs ≤ 32768 by omega)
  have HNA := Lib.hid (show IntKind.i64.wrap (-a) = -a from IntWalk.i64_in _ (by omega))
  have HNZ := Lib.hid (show IntKind.i64.wrap (-z) = -z from IntWalk.i64_in _ (by omega))
  have HCA := Lib.hid (show IntKind.i64.wrap a = a from IntWalk.i64_in _ (by omega))
  have HCZ := Lib.hid (show IntKind.i64.wrap z = z from IntWalk.i64_in _ (by omega))
  clear ht h0 h1 l0 l1 i0 i1 hS0 hS1
  go_enter Tryz.func6, Tryz.ntmps6
  go_wp2_with fail
  refine HA.out.mono ?_
  rintro e w1 ⟨rfl, hb1⟩
  have B1 := Lib.hid hb1
  clear hb1 HA
  go_wp2_with fail
  refine (HS0.out w1 B1.out).mono ?_
  rintro e w2 ⟨rfl, hb2⟩
  have B2 := Lib.hid (B1.out.trans (hb2.mono B1.out.size))
  clear hb2 HS0 B1
  cases S0 with
  | false =>
    go_wp2_with fail
    go_ret
    exact ⟨rfl, B2.out⟩
  | true =>
  go_wp2_with fail
  refine (HS1.out w2 B2.out).mono ?_
  rintro e w3 ⟨rfl, hb3⟩
  have B3 := Lib.hid (B2.out.trans (hb3.mono B2.out.size))
  clear hb3 HS1 B2
  cases S1 with
  | false =>
    go_wp2_with fail
    go_ret
    exact ⟨rfl, B3.out⟩
  | true =>
  have D0 := Lib.hid (smL_bd E0.out.symm)
  have D1 := Lib.hid (smL_bd E1.out.symm)
  clear E0 E1
  go_wp2_with fail
  refine (HO0.out w3 B3.out D0.out.2).mono ?_
  rintro e w5 ⟨x0, r0, rfl, hp0, ho0, hb5⟩
  have P0 := Lib.hid (ho0.pl D0.out.1 (by decide) (by decide) hp0)
  have B5 := Lib.hid (B3.out.trans (hb5.mono B3.out.size))
  clear hb5 HO0 B3 hp0 ho0
  go_wp2_with fail
  refine (HO1.out w5 B5.out D1.out.2).mono ?_
  rintro e w7 ⟨x1, r1, rfl, hp1, ho1, hb6⟩
  have P1' := Lib.hid (ho1.pl D1.out.1 (by decide) (by decide) hp1)
  have P0' := Lib.hid (P0.out.below hb6)
  have B7 := Lib.hid (B5.out.trans (hb6.mono B5.out.size))
  clear hb6 HO1 B5 hp1 ho1 P0
  have P0 := Lib.hid P0'.out
  clear P0'
  obtain ⟨A0, n0, c0, rfl⟩ := P0.out.form
  obtain ⟨A1, n1, c1, rfl⟩ := P1'.out.form
  have hW : ∀ W, W = (w7.alloc (.cells #[.bool false, .slice A0 n0 c0] 27)).alloc (.cells #[.bool false, .slice A1 n1 c1] 27) → Arr W w7.heap.size 27 [.bool false, .slice A0 n0 c0] ∧ Arr W (w7.heap.size + 1) 27 [.bool false, .slice A1 n1 c1] ∧ Below w7.heap.size w7 W := by
    intro W hW
    subst hW
    have s1 : (w7.alloc (.cells #[.bool false, .slice A0 n0 c0] 27)).heap.size = w7.heap.size + 1 := by simp
    have a1 := Arr.new (w7.alloc (.cells #[.bool false, .slice A0 n0 c0] 27)) 27 [.bool false, .slice A1 n1 c1]
    rw [s1] at a1
    exact ⟨(Arr.new w7 _ [_, _]).alloc _, a1, ((Below.refl _ _).alloc (Nat.le_refl _) _).alloc (by omega) _⟩
  have HW := Lib.hid hW
  clear hW
  go_upto_region 6 with fail
  have hW := HW.out
  clear HW
  generalize (w7.alloc (.cells #[.bool false, .slice A0 n0 c0] 27)).alloc (.cells #[.bool false, .slice A1 n1 c1] 27) = w8 at hW ⊢
  obtain ⟨q0, q1, hb8⟩ := hW w8 rfl
  obtain ⟨b0, hb0⟩ : ∃ b, b = w7.heap.size := ⟨_, rfl⟩
  obtain ⟨b1, hb1⟩ : ∃ b, b = w7.heap.size + 1 := ⟨_, rfl⟩
  rw [← hb1] at q1 ⊢
  rw [← hb0] at q0 ⊢
  have Q0 := Lib.hid q0
  have Q1 := Lib.hid q1
  have P0' := Lib.hid (show QB w8 (.agg #[.bool false, .slice A0 n0 c0]) L 6000 1000 6 from ⟨P0.out.below hb8, D0.out.1, D0.out.2⟩)
  have P1 := Lib.hid (show QB w8 (.agg #[.bool false, .slice A1 n1 c1]) M 6000 1000 6 from ⟨P1'.out.below hb8, D1.out.1, D1.out.2⟩)
  have B8 := Lib.hid (B7.out.trans (hb8.mono B7.out.size))
  have y0 := q0.cell 0
  have y1 := q0.cell 1
  clear hW q0 q1 hb8 hb0 hb1 P0 P1' B7 D0 D1
  go_wp2_with fail
  refine (ShiftQB 32768 a z P0'.out HKA.out HKZ.out (by decide) (by decide)).mono ?_
  rintro e w9 ⟨x2, rfl, hb9, hp2⟩
  have P2 := Lib.hid hp2
  obtain ⟨A2, n2, c2, rfl⟩ := hp2.1.form
  have hW : ∀ W, W = w9.alloc (.cells #[.bool false, .slice A2 n2 c2] 27) → ∃ b2, b2 = w9.heap.size ∧ Rg3 w W b0 b1 b2 A0 A1 A2 n0 c0 n1 c1 n2 c2 L M a z := by
    intro W hW
    subst hW
    have k := (Below.refl w9.heap.size w9).alloc (Nat.le_refl _) (.cells #[.bool false, .slice A2 n2 c2] 27)
    have g := hb9.trans (k.mono hb9.size)
    exact ⟨_, rfl, Q0.out.below g Q0.out.lt, Q1.out.below g Q1.out.lt, Arr.new _ _ [_, _], P0'.out.below g, P1.out.below g, P2.out.below k, B8.out.trans (g.mono B8.out.size)⟩
  have HW := Lib.hid hW
  clear hb9 hp2 hW y0 y1
  go_upto_region 7 with fail
  have hW := HW.out
  clear HW Q0 Q1 P0' P1 P2 B8
  generalize w9.alloc (.cells #[.bool false, .slice A2 n2 c2] 27) = w10 at hW ⊢
  obtain ⟨b2, hb2, hr⟩ := hW w10 rfl
  rw [← hb2]
  have R := Lib.hid hr
  clear hW hb2 hr
  refine wp_region_phy (fun a b => Below a.heap.size a b) (fun h k => h.trans (k.mono h.size)) ((Below.refl _ _).drew) (by kernel_rfl) (by kernel_rfl) (by kernel_rfl) (by kernel_rfl) (phiT (fun i => ([some (.agg #[.bool false, .slice A0 n0 c0]), none, none, some (.agg #[.bool false, .slice A0 n0 c0]), some (.bool true), some (.bool true), some (.agg #[.bool false, .slice A0 n0 c0]), some (.agg #[.bool false, .slice A1 n1 c1]), none, none, some (.agg #[.bool false, .slice A0 n0 c0]), none, some (.agg #[.bool false, .slice A1 n1 c1]), none, none, some (.bool true), some (.bool true), some (.bool true), some (.agg #[.bool false, .slice A0 n0 c0]), some (.agg #[.bool false, .slice A1 n1 c1]), none, none, some (.agg #[.bool false, .slice A0 n0 c0]), none, some (.agg #[.bool false, .slice A1 n1 c1]), none, none, some (.bool true), some (.bool true), some (.bool true), some (.agg #[.bool false, .slice A2 n2 c2]), some (.agg #[.bool false, .slice A0 n0 c0]), some (.int .i16 a), some (.int .i64 a), some (.int .i16 z), some (.int .i64 z), none, none, some (.bool true), some (.bool true), some (.bool true), some (.agg #[.bool false, .slice A2 n2 c2]), some (.int .i16 a), some (.int .i64 a), some (.int .i64 (-a)), some (.int .i16 z), some (.int .i64 z), some (.int .i64 (-z)), none, some (.agg #[.bool false, .slice A0 n0 c0]), some (.bool true), some (.bool true), some (.bool true)] : List (Option Value)).getD i none) (fun i v w => (if i = 1 then (fun v w => QB w v (L.map flT) 6000 1000 6) v w else (if i = 2 then (fun v w => QB w v ((L.map flT).map flT) 6000 1000 6) v w else (if i = 8 then (fun v w => QB w v (mulT L M) 36000000 2000 36) v w else (if i = 9 then (fun v w => QB w v ((mulT L M).map flT) 36000000 2000 36) v w else (if i = 11 then (fun v w => QB w v (L.map flT) 6000 1000 6) v w else (if i = 13 then (fun v w => QB w v (M.map flT) 6000 1000 6) v w else (if i = 14 then (fun v w => QB w v (mulT (L.map flT) (M.map flT)) 36000000 2000 36) v w else (if i = 20 then (fun v w => QB w v (L ++ M) 12000 1000 12) v w else (if i = 21 then (fun v w => QB w v ((L ++ M).map flT) 12000 1000 12) v w else (if i = 23 then (fun v w => QB w v (L.map flT) 6000 1000 6) v w else (if i = 25 then (fun v w => QB w v (M.map flT) 6000 1000 6) v w else (if i = 26 then (fun v w => QB w v ((L.map flT) ++ (M.map flT)) 12000 1000 12) v w else (if i = 36 then (fun v w => QB w v [((a, z), 1)] 1 32768 1) v w else (if i = 37 then (fun v w => QB w v (mulT L [((a, z), 1)]) 6000 33768 6) v w else (if i = 48 then (fun v w => QB w v ((L.map (shT a z)).map (shT (-a) (-z))) 6000 66536 6) v w else True))))))))))))))))) (fun i v w w' h hb => ?_) ⟨?_, ?_, ?_, ?_, ?_, ?_, ?_, ?_, ?_, ?_, ?_, ?_, ?_, ?_, ?_, ?_, ?_, ?_, ?_, ?_, ?_, ?_, ?_, ?_, ?_, ?_, ?_, ?_, ?_, ?_, ?_, ?_, ?_, ?_, ?_, ?_, ?_, ?_, ?_, ?_, ?_, ?_, ?_, ?_, ?_, ?_, ?_, ?_, ?_, ?_, ?_, ?_, ?_, trivial⟩ ?_
  · unfold phiT at h ⊢
    split
    · next u hu => rw [hu] at h; exact h
    · next hu =>
      rw [hu] at h
      simp only at h ⊢
      by_cases q1 : i = 1
      · rw [if_pos q1] at h ⊢; exact QB.below h hb
      · rw [if_neg q1] at h ⊢
        by_cases q2 : i = 2
        · rw [if_pos q2] at h ⊢; exact QB.below h hb
        · rw [if_neg q2] at h ⊢
          by_cases q8 : i = 8
          · rw [if_pos q8] at h ⊢; exact QB.below h hb
          · rw [if_neg q8] at h ⊢
            by_cases q9 : i = 9
            · rw [if_pos q9] at h ⊢; exact QB.below h hb
            · rw [if_neg q9] at h ⊢
              by_cases q11 : i = 11
              · rw [if_pos q11] at h ⊢; exact QB.below h hb
              · rw [if_neg q11] at h ⊢
                by_cases q13 : i = 13
                · rw [if_pos q13] at h ⊢; exact QB.below h hb
                · rw [if_neg q13] at h ⊢
                  by_cases q14 : i = 14
                  · rw [if_pos q14] at h ⊢; exact QB.below h hb
                  · rw [if_neg q14] at h ⊢
                    by_cases q20 : i = 20
                    · rw [if_pos q20] at h ⊢; exact QB.below h hb
                    · rw [if_neg q20] at h ⊢
                      by_cases q21 : i = 21
                      · rw [if_pos q21] at h ⊢; exact QB.below h hb
                      · rw [if_neg q21] at h ⊢
                        by_cases q23 : i = 23
                        · rw [if_pos q23] at h ⊢; exact QB.below h hb
                        · rw [if_neg q23] at h ⊢
                          by_cases q25 : i = 25
                          · rw [if_pos q25] at h ⊢; exact QB.below h hb
                          · rw [if_neg q25] at h ⊢
                            by_cases q26 : i = 26
                            · rw [if_pos q26] at h ⊢; exact QB.below h hb
                            · rw [if_neg q26] at h ⊢
                              by_cases q36 : i = 36
                              · rw [if_pos q36] at h ⊢; exact QB.below h hb
                              · rw [if_neg q36] at h ⊢
                                by_cases q37 : i = 37
                                · rw [if_pos q37] at h ⊢; exact QB.below h hb
                                · rw [if_neg q37] at h ⊢
                                  by_cases q48 : i = 48
                                  · rw [if_pos q48] at h ⊢; exact QB.below h hb
                                  · rw [if_neg q48] at h ⊢
                                    trivial
  · intro x w1 bA hT hdep hold hb
    refine .inl ⟨trivial, ?_⟩
    have e9 : bA.tmps[9]?.getD undef = .pointer (some ⟨b0, 0, none⟩) := hb 9
    have cc0 := (R.out.below hT).q0.cell 0
    have cc1 := (R.out.below hT).q0.cell 1
    refine phx_run (.agg #[.bool false, .slice A0 n0 c0]) ?_ (Below.refl _ _) rfl
    clear hb hdep hold
    go_simp
  · intro x w1 bA hT hdep hold hb
    refine .inl ⟨trivial, ?_⟩
    have e32 : bA.tmps[32]?.getD undef = .agg #[.bool false, .slice A0 n0 c0] := (hb 32).trans (hdep 0 (by decide))
    refine phx_call ?_ ((FlipQB ((R.out.below hT).p0) (by decide) (by decide)).mono fun e w' h => (by obtain ⟨v, he, hb', hv⟩ := h; exact ⟨v, he, hb', hv⟩))
    clear hb hdep hold
    go_simp
  · intro x w1 bA hT hdep hold hb
    refine .inl ⟨trivial, ?_⟩
    have p33 := hdep 1 (by decide)
    have e33 : bA.tmps[33]?.getD undef = x 1 := hb 33
    generalize x 1 = x33 at *
    have P33 := Lib.hid (show (fun v w => QB w v (L.map flT) 6000 1000 6) x33 w1 from p33)
    clear p33
    refine phx_call ?_ ((FlipQB (P33.out) (by decide) (by decide)).mono fun e w' h => (by obtain ⟨v, he, hb', hv⟩ := h; exact ⟨v, he, hb', hv⟩))
    clear hb hdep hold
    go_simp
  · intro x w1 bA hT hdep hold hb
    refine .inl ⟨trivial, ?_⟩
    have e9 : bA.tmps[9]?.getD undef = .pointer (some ⟨b0, 0, none⟩) := hb 9
    have cc0 := (R.out.below hT).q0.cell 0
    have cc1 := (R.out.below hT).q0.cell 1
    refine phx_run (.agg #[.bool false, .slice A0 n0 c0]) ?_ (Below.refl _ _) rfl
    clear hb hdep hold
    go_simp
  · intro x w1 bA hT hdep hold hb
    refine .inl ⟨trivial, ?_⟩
    have p34 := hdep 2 (by decide)
    have e34 : bA.tmps[34]?.getD undef = x 2 := hb 34
    generalize x 2 = x34 at *
    have P34 := Lib.hid (show (fun v w => QB w v ((L.map flT).map flT) 6000 1000 6) x34 w1 from p34)
    clear p34
    have e35 : bA.tmps[35]?.getD undef = .agg #[.bool false, .slice A0 n0 c0] := (hb 35).trans (hdep 3 (by decide))
    refine phx_call ?_ ((EqualQB (P34.out) ((R.out.below hT).p0) (fun e => fl_fl _ e)).mono fun e w' h => ⟨_, h.1, h.2, rfl⟩)
    clear hb hdep hold
    go_simp
  · intro x w1 bA hT hdep hold hb
    refine .inl ⟨trivial, ?_⟩
    have e36 : bA.tmps[36]?.getD undef = .bool true := (hb 36).trans (hdep 4 (by decide))
    refine phx_run (.bool true) ?_ (Below.refl _ _) rfl
    clear hb hdep hold
    go_simp
  · intro x w1 bA hT hdep hold hb
    refine .inl ⟨⟨37, rfl, (hb 37).trans (hdep 5 (by decide))⟩, ?_⟩
    have e9 : bA.tmps[9]?.getD undef = .pointer (some ⟨b0, 0, none⟩) := hb 9
    have cc0 := (R.out.below hT).q0.cell 0
    have cc1 := (R.out.below hT).q0.cell 1
    refine phx_run (.agg #[.bool false, .slice A0 n0 c0]) ?_ (Below.refl _ _) rfl
    clear hb hdep hold
    go_simp
  · intro x w1 bA hT hdep hold hb
    refine .inl ⟨⟨37, rfl, (hb 37).trans (hdep 5 (by decide))⟩, ?_⟩
    have e10 : bA.tmps[10]?.getD undef = .pointer (some ⟨b1, 0, none⟩) := hb 10
    have cc0 := (R.out.below hT).q1.cell 0
    have cc1 := (R.out.below hT).q1.cell 1
    refine phx_run (.agg #[.bool false, .slice A1 n1 c1]) ?_ (Below.refl _ _) rfl
    clear hb hdep hold
    go_simp
  · intro x w1 bA hT hdep hold hb
    refine .inl ⟨⟨37, rfl, (hb 37).trans (hdep 5 (by decide))⟩, ?_⟩
    have e38 : bA.tmps[38]?.getD undef = .agg #[.bool false, .slice A0 n0 c0] := (hb 38).trans (hdep 6 (by decide))
    have e39 : bA.tmps[39]?.getD undef = .agg #[.bool false, .slice A1 n1 c1] := (hb 39).trans (hdep 7 (by decide))
    refine phx_call ?_ ((MulQB ((R.out.below hT).p0) ((R.out.below hT).p1) (by decide) (by decide) (by decide)).mono fun e w' h => (by obtain ⟨v, he, hb', hv⟩ := h; exact ⟨v, he, hb', hv⟩))
    clear hb hdep hold
    go_simp
  · intro x w1 bA hT hdep hold hb
    refine .inl ⟨⟨37, rfl, (hb 37).trans (hdep 5 (by decide))⟩, ?_⟩
    have p40 := hdep 8 (by decide)
    have e40 : bA.tmps[40]?.getD undef = x 8 := hb 40
    generalize x 8 = x40 at *
    have P40 := Lib.hid (show (fun v w => QB w v (mulT L M) 36000000 2000 36) x40 w1 from p40)
    clear p40
    refine phx_call ?_ ((FlipQB (P40.out) (by decide) (by decide)).mono fun e w' h => (by obtain ⟨v, he, hb', hv⟩ := h; exact ⟨v, he, hb', hv⟩))
    clear hb hdep hold
    go_simp
  · intro x w1 bA hT hdep hold hb
    refine .inl ⟨⟨37, rfl, (hb 37).trans (hdep 5 (by decide))⟩, ?_⟩
    have e9 : bA.tmps[9]?.getD undef = .pointer (some ⟨b0, 0, none⟩) := hb 9
    have cc0 := (R.out.below hT).q0.cell 0
    have cc1 := (R.out.below hT).q0.cell 1
    refine phx_run (.agg #[.bool false, .slice A0 n0 c0]) ?_ (Below.refl _ _) rfl
    clear hb hdep hold
    go_simp
  · intro x w1 bA hT hdep hold hb
    refine .inl ⟨⟨37, rfl, (hb 37).trans (hdep 5 (by decide))⟩, ?_⟩
    have e42 : bA.tmps[42]?.getD undef = .agg #[.bool false, .slice A0 n0 c0] := (hb 42).trans (hdep 10 (by decide))
    refine phx_call ?_ ((FlipQB ((R.out.below hT).p0) (by decide) (by decide)).mono fun e w' h => (by obtain ⟨v, he, hb', hv⟩ := h; exact ⟨v, he, hb', hv⟩))
    clear hb hdep hold
    go_simp
  · intro x w1 bA hT hdep hold hb
    refine .inl ⟨⟨37, rfl, (hb 37).trans (hdep 5 (by decide))⟩, ?_⟩
    have e10 : bA.tmps[10]?.getD undef = .pointer (some ⟨b1, 0, none⟩) := hb 10
    have cc0 := (R.out.below hT).q1.cell 0
    have cc1 := (R.out.below hT).q1.cell 1
    refine phx_run (.agg #[.bool false, .slice A1 n1 c1]) ?_ (Below.refl _ _) rfl
    clear hb hdep hold
    go_simp
  · intro x w1 bA hT hdep hold hb
    refine .inl ⟨⟨37, rfl, (hb 37).trans (hdep 5 (by decide))⟩, ?_⟩
    have e44 : bA.tmps[44]?.getD undef = .agg #[.bool false, .slice A1 n1 c1] := (hb 44).trans (hdep 12 (by decide))
    refine phx_call ?_ ((FlipQB ((R.out.below hT).p1) (by decide) (by decide)).mono fun e w' h => (by obtain ⟨v, he, hb', hv⟩ := h; exact ⟨v, he, hb', hv⟩))
    clear hb hdep hold
    go_simp
  · intro x w1 bA hT hdep hold hb
    refine .inl ⟨⟨37, rfl, (hb 37).trans (hdep 5 (by decide))⟩, ?_⟩
    have p43 := hdep 11 (by decide)
    have e43 : bA.tmps[43]?.getD undef = x 11 := hb 43
    generalize x 11 = x43 at *
    have P43 := Lib.hid (show (fun v w => QB w v (L.map flT) 6000 1000 6) x43 w1 from p43)
    clear p43
    have p45 := hdep 13 (by decide)
    have e45 : bA.tmps[45]?.getD undef = x 13 := hb 45
    generalize x 13 = x45 at *
    have P45 := Lib.hid (show (fun v w => QB w v (M.map flT) 6000 1000 6) x45 w1 from p45)
    clear p45
    refine phx_call ?_ ((MulQB (P43.out) (P45.out) (by decide) (by decide) (by decide)).mono fun e w' h => (by obtain ⟨v, he, hb', hv⟩ := h; exact ⟨v, he, hb', hv⟩))
    clear hb hdep hold
    go_simp
  · intro x w1 bA hT hdep hold hb
    refine .inl ⟨⟨37, rfl, (hb 37).trans (hdep 5 (by decide))⟩, ?_⟩
    have p41 := hdep 9 (by decide)
    have e41 : bA.tmps[41]?.getD undef = x 9 := hb 41
    generalize x 9 = x41 at *
    have P41 := Lib.hid (show (fun v w => QB w v ((mulT L M).map flT) 36000000 2000 36) x41 w1 from p41)
    clear p41
    have p46 := hdep 14 (by decide)
    have e46 : bA.tmps[46]?.getD undef = x 14 := hb 46
    generalize x 14 = x46 at *
    have P46 := Lib.hid (show (fun v w => QB w v (mulT (L.map flT) (M.map flT)) 36000000 2000 36) x46 w1 from p46)
    clear p46
    refine phx_call ?_ ((EqualQB (P41.out) (P46.out) (fun e => by rw [fl_mul])).mono fun e w' h => ⟨_, h.1, h.2, rfl⟩)
    clear hb hdep hold
    go_simp
  · intro x w1 bA hT hdep hold hb
    refine .inl ⟨trivial, ?_⟩
    have e37 : bA.tmps[37]?.getD undef = .bool true := (hb 37).trans (hdep 5 (by decide))
    have e47 : bA.tmps[47]?.getD undef = .bool true := (hb 47).trans (hdep 15 (by decide))
    refine phx_run (.bool true) ?_ (Below.refl _ _) rfl
    clear hb hdep hold
    go_simp
  · intro x w1 bA hT hdep hold hb
    refine .inl ⟨trivial, ?_⟩
    have e48 : bA.tmps[48]?.getD undef = .bool true := (hb 48).trans (hdep 16 (by decide))
    refine phx_run (.bool true) ?_ (Below.refl _ _) rfl
    clear hb hdep hold
    go_simp
  · intro x w1 bA hT hdep hold hb
    refine .inl ⟨⟨49, rfl, (hb 49).trans (hdep 17 (by decide))⟩, ?_⟩
    have e9 : bA.tmps[9]?.getD undef = .pointer (some ⟨b0, 0, none⟩) := hb 9
    have cc0 := (R.out.below hT).q0.cell 0
    have cc1 := (R.out.below hT).q0.cell 1
    refine phx_run (.agg #[.bool false, .slice A0 n0 c0]) ?_ (Below.refl _ _) rfl
    clear hb hdep hold
    go_simp
  · intro x w1 bA hT hdep hold hb
    refine .inl ⟨⟨49, rfl, (hb 49).trans (hdep 17 (by decide))⟩, ?_⟩
    have e10 : bA.tmps[10]?.getD undef = .pointer (some ⟨b1, 0, none⟩) := hb 10
    have cc0 := (R.out.below hT).q1.cell 0
    have cc1 := (R.out.below hT).q1.cell 1
    refine phx_run (.agg #[.bool false, .slice A1 n1 c1]) ?_ (Below.refl _ _) rfl
    clear hb hdep hold
    go_simp
  · intro x w1 bA hT hdep hold hb
    refine .inl ⟨⟨49, rfl, (hb 49).trans (hdep 17 (by decide))⟩, ?_⟩
    have e50 : bA.tmps[50]?.getD undef = .agg #[.bool false, .slice A0 n0 c0] := (hb 50).trans (hdep 18 (by decide))
    have e51 : bA.tmps[51]?.getD undef = .agg #[.bool false, .slice A1 n1 c1] := (hb 51).trans (hdep 19 (by decide))
    refine phx_call ?_ ((AddQB ((R.out.below hT).p0) ((R.out.below hT).p1) (by decide) (by decide) (by decide)).mono fun e w' h => (by obtain ⟨v, he, hb', hv⟩ := h; exact ⟨v, he, hb', hv⟩))
    clear hb hdep hold
    go_simp
  · intro x w1 bA hT hdep hold hb
    refine .inl ⟨⟨49, rfl, (hb 49).trans (hdep 17 (by decide))⟩, ?_⟩
    have p52 := hdep 20 (by decide)
    have e52 : bA.tmps[52]?.getD undef = x 20 := hb 52
    generalize x 20 = x52 at *
    have P52 := Lib.hid (show (fun v w => QB w v (L ++ M) 12000 1000 12) x52 w1 from p52)
    clear p52
    refine phx_call ?_ ((FlipQB (P52.out) (by decide) (by decide)).mono fun e w' h => (by obtain ⟨v, he, hb', hv⟩ := h; exact ⟨v, he, hb', hv⟩))
    clear hb hdep hold
    go_simp
  · intro x w1 bA hT hdep hold hb
    refine .inl ⟨⟨49, rfl, (hb 49).trans (hdep 17 (by decide))⟩, ?_⟩
    have e9 : bA.tmps[9]?.getD undef = .pointer (some ⟨b0, 0, none⟩) := hb 9
    have cc0 := (R.out.below hT).q0.cell 0
    have cc1 := (R.out.below hT).q0.cell 1
    refine phx_run (.agg #[.bool false, .slice A0 n0 c0]) ?_ (Below.refl _ _) rfl
    clear hb hdep hold
    go_simp
  · intro x w1 bA hT hdep hold hb
    refine .inl ⟨⟨49, rfl, (hb 49).trans (hdep 17 (by decide))⟩, ?_⟩
    have e54 : bA.tmps[54]?.getD undef = .agg #[.bool false, .slice A0 n0 c0] := (hb 54).trans (hdep 22 (by decide))
    refine phx_call ?_ ((FlipQB ((R.out.below hT).p0) (by decide) (by decide)).mono fun e w' h => (by obtain ⟨v, he, hb', hv⟩ := h; exact ⟨v, he, hb', hv⟩))
    clear hb hdep hold
    go_simp
  · intro x w1 bA hT hdep hold hb
    refine .inl ⟨⟨49, rfl, (hb 49).trans (hdep 17 (by decide))⟩, ?_⟩
    have e10 : bA.tmps[10]?.getD undef = .pointer (some ⟨b1, 0, none⟩) := hb 10
    have cc0 := (R.out.below hT).q1.cell 0
    have cc1 := (R.out.below hT).q1.cell 1
    refine phx_run (.agg #[.bool false, .slice A1 n1 c1]) ?_ (Below.refl _ _) rfl
    clear hb hdep hold
    go_simp
  · intro x w1 bA hT hdep hold hb
    refine .inl ⟨⟨49, rfl, (hb 49).trans (hdep 17 (by decide))⟩, ?_⟩
    have e56 : bA.tmps[56]?.getD undef = .agg #[.bool false, .slice A1 n1 c1] := (hb 56).trans (hdep 24 (by decide))
    refine phx_call ?_ ((FlipQB ((R.out.below hT).p1) (by decide) (by decide)).mono fun e w' h => (by obtain ⟨v, he, hb', hv⟩ := h; exact ⟨v, he, hb', hv⟩))
    clear hb hdep hold
    go_simp
  · intro x w1 bA hT hdep hold hb
    refine .inl ⟨⟨49, rfl, (hb 49).trans (hdep 17 (by decide))⟩, ?_⟩
    have p55 := hdep 23 (by decide)
    have e55 : bA.tmps[55]?.getD undef = x 23 := hb 55
    generalize x 23 = x55 at *
    have P55 := Lib.hid (show (fun v w => QB w v (L.map flT) 6000 1000 6) x55 w1 from p55)
    clear p55
    have p57 := hdep 25 (by decide)
    have e57 : bA.tmps[57]?.getD undef = x 25 := hb 57
    generalize x 25 = x57 at *
    have P57 := Lib.hid (show (fun v w => QB w v (M.map flT) 6000 1000 6) x57 w1 from p57)
    clear p57
    refine phx_call ?_ ((AddQB (P55.out) (P57.out) (by decide) (by decide) (by decide)).mono fun e w' h => (by obtain ⟨v, he, hb', hv⟩ := h; exact ⟨v, he, hb', hv⟩))
    clear hb hdep hold
    go_simp
  · intro x w1 bA hT hdep hold hb
    refine .inl ⟨⟨49, rfl, (hb 49).trans (hdep 17 (by decide))⟩, ?_⟩
    have p53 := hdep 21 (by decide)
    have e53 : bA.tmps[53]?.getD undef = x 21 := hb 53
    generalize x 21 = x53 at *
    have P53 := Lib.hid (show (fun v w => QB w v ((L ++ M).map flT) 12000 1000 12) x53 w1 from p53)
    clear p53
    have p58 := hdep 26 (by decide)
    have e58 : bA.tmps[58]?.getD undef = x 26 := hb 58
    generalize x 26 = x58 at *
    have P58 := Lib.hid (show (fun v w => QB w v ((L.map flT) ++ (M.map flT)) 12000 1000 12) x58 w1 from p58)
    clear p58
    refine phx_call ?_ ((EqualQB (P53.out) (P58.out) (fun e => by rw [List.map_append])).mono fun e w' h => ⟨_, h.1, h.2, rfl⟩)
    clear hb hdep hold
    go_simp
  · intro x w1 bA hT hdep hold hb
    refine .inl ⟨trivial, ?_⟩
    have e49 : bA.tmps[49]?.getD undef = .bool true := (hb 49).trans (hdep 17 (by decide))
    have e59 : bA.tmps[59]?.getD undef = .bool true := (hb 59).trans (hdep 27 (by decide))
    refine phx_run (.bool true) ?_ (Below.refl _ _) rfl
    clear hb hdep hold
    go_simp
  · intro x w1 bA hT hdep hold hb
    refine .inl ⟨trivial, ?_⟩
    have e60 : bA.tmps[60]?.getD undef = .bool true := (hb 60).trans (hdep 28 (by decide))
    refine phx_run (.bool true) ?_ (Below.refl _ _) rfl
    clear hb hdep hold
    go_simp
  · intro x w1 bA hT hdep hold hb
    refine .inl ⟨⟨61, rfl, (hb 61).trans (hdep 29 (by decide))⟩, ?_⟩
    have e11 : bA.tmps[11]?.getD undef = .pointer (some ⟨b2, 0, none⟩) := hb 11
    have cc0 := (R.out.below hT).q2.cell 0
    have cc1 := (R.out.below hT).q2.cell 1
    refine phx_run (.agg #[.bool false, .slice A2 n2 c2]) ?_ (Below.refl _ _) rfl
    clear hb hdep hold
    go_simp
  · intro x w1 bA hT hdep hold hb
    refine .inl ⟨⟨61, rfl, (hb 61).trans (hdep 29 (by decide))⟩, ?_⟩
    have e9 : bA.tmps[9]?.getD undef = .pointer (some ⟨b0, 0, none⟩) := hb 9
    have cc0 := (R.out.below hT).q0.cell 0
    have cc1 := (R.out.below hT).q0.cell 1
    refine phx_run (.agg #[.bool false, .slice A0 n0 c0]) ?_ (Below.refl _ _) rfl
    clear hb hdep hold
    go_simp
  · intro x w1 bA hT hdep hold hb
    refine .inl ⟨⟨61, rfl, (hb 61).trans (hdep 29 (by decide))⟩, ?_⟩
    have e2 : bA.tmps[2]?.getD undef = .int .i16 a := hb 2
    refine phx_run (.int .i16 a) ?_ (Below.refl _ _) rfl
    clear hb hdep hold
    go_simp
  · intro x w1 bA hT hdep hold hb
    refine .inl ⟨⟨61, rfl, (hb 61).trans (hdep 29 (by decide))⟩, ?_⟩
    have e64 : bA.tmps[64]?.getD undef = .int .i16 a := (hb 64).trans (hdep 32 (by decide))
    have cw := HCA.out
    refine phx_run (.int .i64 a) ?_ (Below.refl _ _) rfl
    clear hb hdep hold
    go_simp
  · intro x w1 bA hT hdep hold hb
    refine .inl ⟨⟨61, rfl, (hb 61).trans (hdep 29 (by decide))⟩, ?_⟩
    have e3 : bA.tmps[3]?.getD undef = .int .i16 z := hb 3
    refine phx_run (.int .i16 z) ?_ (Below.refl _ _) rfl
    clear hb hdep hold
    go_simp
  · intro x w1 bA hT hdep hold hb
    refine .inl ⟨⟨61, rfl, (hb 61).trans (hdep 29 (by decide))⟩, ?_⟩
    have e66 : bA.tmps[66]?.getD undef = .int .i16 z := (hb 66).trans (hdep 34 (by decide))
    have cw := HCZ.out
    refine phx_run (.int .i64 z) ?_ (Below.refl _ _) rfl
    clear hb hdep hold
    go_simp
  · intro x w1 bA hT hdep hold hb
    refine .inl ⟨⟨61, rfl, (hb 61).trans (hdep 29 (by decide))⟩, ?_⟩
    have e65 : bA.tmps[65]?.getD undef = .int .i64 a := (hb 65).trans (hdep 33 (by decide))
    have e67 : bA.tmps[67]?.getD undef = .int .i64 z := (hb 67).trans (hdep 35 (by decide))
    refine phx_call ?_ ((TermQB 32768 a z w1 HKA.out HKZ.out (by decide)).mono fun e w' h => (by obtain ⟨v, he, hb', hv⟩ := h; exact ⟨v, he, hb', hv⟩))
    clear hb hdep hold
    go_simp
  · intro x w1 bA hT hdep hold hb
    refine .inl ⟨⟨61, rfl, (hb 61).trans (hdep 29 (by decide))⟩, ?_⟩
    have e63 : bA.tmps[63]?.getD undef = .agg #[.bool false, .slice A0 n0 c0] := (hb 63).trans (hdep 31 (by decide))
    have p68 := hdep 36 (by decide)
    have e68 : bA.tmps[68]?.getD undef = x 36 := hb 68
    generalize x 36 = x68 at *
    have P68 := Lib.hid (show (fun v w => QB w v [((a, z), 1)] 1 32768 1) x68 w1 from p68)
    clear p68
    refine phx_call ?_ ((MulQB ((R.out.below hT).p0) (P68.out) (by decide) (by decide) (by decide)).mono fun e w' h => (by obtain ⟨v, he, hb', hv⟩ := h; exact ⟨v, he, hb', hv⟩))
    clear hb hdep hold
    go_simp
  · intro x w1 bA hT hdep hold hb
    refine .inl ⟨⟨61, rfl, (hb 61).trans (hdep 29 (by decide))⟩, ?_⟩
    have e62 : bA.tmps[62]?.getD undef = .agg #[.bool false, .slice A2 n2 c2] := (hb 62).trans (hdep 30 (by decide))
    have p69 := hdep 37 (by decide)
    have e69 : bA.tmps[69]?.getD undef = x 37 := hb 69
    generalize x 37 = x69 at *
    have P69 := Lib.hid (show (fun v w => QB w v (mulT L [((a, z), 1)]) 6000 33768 6) x69 w1 from p69)
    clear p69
    refine phx_call ?_ ((EqualQB ((R.out.below hT).p2) (P69.out) (fun e => sh_mul _ _ _ e)).mono fun e w' h => ⟨_, h.1, h.2, rfl⟩)
    clear hb hdep hold
    go_simp
  · intro x w1 bA hT hdep hold hb
    refine .inl ⟨trivial, ?_⟩
    have e61 : bA.tmps[61]?.getD undef = .bool true := (hb 61).trans (hdep 29 (by decide))
    have e70 : bA.tmps[70]?.getD undef = .bool true := (hb 70).trans (hdep 38 (by decide))
    refine phx_run (.bool true) ?_ (Below.refl _ _) rfl
    clear hb hdep hold
    go_simp
  · intro x w1 bA hT hdep hold hb
    refine .inl ⟨trivial, ?_⟩
    have e71 : bA.tmps[71]?.getD undef = .bool true := (hb 71).trans (hdep 39 (by decide))
    refine phx_run (.bool true) ?_ (Below.refl _ _) rfl
    clear hb hdep hold
    go_simp
  · intro x w1 bA hT hdep hold hb
    refine .inl ⟨⟨72, rfl, (hb 72).trans (hdep 40 (by decide))⟩, ?_⟩
    have e11 : bA.tmps[11]?.getD undef = .pointer (some ⟨b2, 0, none⟩) := hb 11
    have cc0 := (R.out.below hT).q2.cell 0
    have cc1 := (R.out.below hT).q2.cell 1
    refine phx_run (.agg #[.bool false, .slice A2 n2 c2]) ?_ (Below.refl _ _) rfl
    clear hb hdep hold
    go_simp
  · intro x w1 bA hT hdep hold hb
    refine .inl ⟨⟨72, rfl, (hb 72).trans (hdep 40 (by decide))⟩, ?_⟩
    have e2 : bA.tmps[2]?.getD undef = .int .i16 a := hb 2
    refine phx_run (.int .i16 a) ?_ (Below.refl _ _) rfl
    clear hb hdep hold
    go_simp
  · intro x w1 bA hT hdep hold hb
    refine .inl ⟨⟨72, rfl, (hb 72).trans (hdep 40 (by decide))⟩, ?_⟩
    have e74 : bA.tmps[74]?.getD undef = .int .i16 a := (hb 74).trans (hdep 42 (by decide))
    have cw := HCA.out
    refine phx_run (.int .i64 a) ?_ (Below.refl _ _) rfl
    clear hb hdep hold
    go_simp
  · intro x w1 bA hT hdep hold hb
    refine .inl ⟨⟨72, rfl, (hb 72).trans (hdep 40 (by decide))⟩, ?_⟩
    have e75 : bA.tmps[75]?.getD undef = .int .i64 a := (hb 75).trans (hdep 43 (by decide))
    have cw := HNA.out
    refine phx_run (.int .i64 (-a)) ?_ (Below.refl _ _) rfl
    clear hb hdep hold
    go_simp
  · intro x w1 bA hT hdep hold hb
    refine .inl ⟨⟨72, rfl, (hb 72).trans (hdep 40 (by decide))⟩, ?_⟩
    have e3 : bA.tmps[3]?.getD undef = .int .i16 z := hb 3
    refine phx_run (.int .i16 z) ?_ (Below.refl _ _) rfl
    clear hb hdep hold
    go_simp
  · intro x w1 bA hT hdep hold hb
    refine .inl ⟨⟨72, rfl, (hb 72).trans (hdep 40 (by decide))⟩, ?_⟩
    have e77 : bA.tmps[77]?.getD undef = .int .i16 z := (hb 77).trans (hdep 45 (by decide))
    have cw := HCZ.out
    refine phx_run (.int .i64 z) ?_ (Below.refl _ _) rfl
    clear hb hdep hold
    go_simp
  · intro x w1 bA hT hdep hold hb
    refine .inl ⟨⟨72, rfl, (hb 72).trans (hdep 40 (by decide))⟩, ?_⟩
    have e78 : bA.tmps[78]?.getD undef = .int .i64 z := (hb 78).trans (hdep 46 (by decide))
    have cw := HNZ.out
    refine phx_run (.int .i64 (-z)) ?_ (Below.refl _ _) rfl
    clear hb hdep hold
    go_simp
  · intro x w1 bA hT hdep hold hb
    refine .inl ⟨⟨72, rfl, (hb 72).trans (hdep 40 (by decide))⟩, ?_⟩
    have e73 : bA.tmps[73]?.getD undef = .agg #[.bool false, .slice A2 n2 c2] := (hb 73).trans (hdep 41 (by decide))
    have e76 : bA.tmps[76]?.getD undef = .int .i64 (-a) := (hb 76).trans (hdep 44 (by decide))
    have e79 : bA.tmps[79]?.getD undef = .int .i64 (-z) := (hb 79).trans (hdep 47 (by decide))
    refine phx_call ?_ ((ShiftQB 32768 (-a) (-z) ((R.out.below hT).p2) (by rw [Int.natAbs_neg]; exact HKA.out) (by rw [Int.natAbs_neg]; exact HKZ.out) (by decide) (by decide)).mono fun e w' h => (by obtain ⟨v, he, hb', hv⟩ := h; exact ⟨v, he, hb', hv⟩))
    clear hb hdep hold
    go_simp
  · intro x w1 bA hT hdep hold hb
    refine .inl ⟨⟨72, rfl, (hb 72).trans (hdep 40 (by decide))⟩, ?_⟩
    have e9 : bA.tmps[9]?.getD undef = .pointer (some ⟨b0, 0, none⟩) := hb 9
    have cc0 := (R.out.below hT).q0.cell 0
    have cc1 := (R.out.below hT).q0.cell 1
    refine phx_run (.agg #[.bool false, .slice A0 n0 c0]) ?_ (Below.refl _ _) rfl
    clear hb hdep hold
    go_simp
  · intro x w1 bA hT hdep hold hb
    refine .inl ⟨⟨72, rfl, (hb 72).trans (hdep 40 (by decide))⟩, ?_⟩
    have p80 := hdep 48 (by decide)
    have e80 : bA.tmps[80]?.getD undef = x 48 := hb 80
    generalize x 48 = x80 at *
    have P80 := Lib.hid (show (fun v w => QB w v ((L.map (shT a z)).map (shT (-a) (-z))) 6000 66536 6) x80 w1 from p80)
    clear p80
    have e81 : bA.tmps[81]?.getD undef = .agg #[.bool false, .slice A0 n0 c0] := (hb 81).trans (hdep 49 (by decide))
    refine phx_call ?_ ((EqualQB (P80.out) ((R.out.below hT).p0) (fun e => by rw [sh_back])).mono fun e w' h => ⟨_, h.1, h.2, rfl⟩)
    clear hb hdep hold
    go_simp
  · intro x w1 bA hT hdep hold hb
    refine .inl ⟨trivial, ?_⟩
    have e72 : bA.tmps[72]?.getD undef = .bool true := (hb 72).trans (hdep 40 (by decide))
    have e82 : bA.tmps[82]?.getD undef = .bool true := (hb 82).trans (hdep 50 (by decide))
    refine phx_run (.bool true) ?_ (Below.refl _ _) rfl
    clear hb hdep hold
    go_simp
  · intro x w1 bA hT hdep hold hb
    refine .inl ⟨trivial, ?_⟩
    have e83 : bA.tmps[83]?.getD undef = .bool true := (hb 83).trans (hdep 51 (by decide))
    refine phx_run (.bool true) ?_ (Below.refl _ _) rfl
    clear hb hdep hold
    go_simp
  intro x w1 hT hall
  have x52e : x 52 = .bool true := hall 52 (by decide)
  clear hall
  refine end_look 8 52 (by kernel_rfl) (by kernel_rfl) (by kernel_rfl) x52e (fun T hT8 => ?_)
  clear x52e
  have HBF := Lib.hid ((R.out.below hT).bl)
  clear hT
  go_wp2_with fail
  go_ret
  exact ⟨by simp only [Array.getD_eq_getD_getElem?, hT8], HBF.out⟩
end Go.Proofs.YtbfggncmjdhapaaGreatDoor
