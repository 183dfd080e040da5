/- BivariateTerms: the law's walk. -/
import Derived.Test.YtbfggncmjdhapaaGreatDoorZSlb
import Derived.Test.YtbfggncmjdhapaaGreatDoorZRt6
import Derived.Test.YtbfggncmjdhapaaGreatDoorZRt7
import Derived.Test.YtbfggncmjdhapaaGreatDoorZRt8
import Derived.Test.YtbfggncmjdhapaaGreatDoorZEnd
namespace Go.Proofs.YtbfggncmjdhapaaGreatDoor
open Go.RowKit
set_option linter.unusedVariables false

theorem fiL_bd {l : List T2} (h : fiL l = true) : (∀ t ∈ l, t.2.natAbs ≤ 1125899906842624) ∧ l.length ≤ 12 := by
  unfold fiL at h
  simp only [Bool.and_eq_true, decide_eq_true_eq, List.all_eq_true] at h
  refine ⟨fun t ht => ?_, h.2⟩
  have := h.1 t ht
  unfold fiT at this
  have := of_decide_eq_true this
  omega
/-- the law's boxes -/
structure Tm7 (w W : World) (b5 b6 b7 b8 : Nat) (bo5 bo6 bo7 bo8 : Bool) (A5 A6 A7 A8 : Option Addr) (n5 c5 n6 c6 n7 c7 n8 c8 : Nat) (p q : PolB) : Prop where
  q5 : Arr W b5 27 [.bool bo5, .slice A5 n5 c5]
  q6 : Arr W b6 27 [.bool bo6, .slice A6 n6 c6]
  q7 : Arr W b7 49 [.slice A7 n7 c7, .bool bo7]
  q8 : Arr W b8 49 [.slice A8 n8 c8, .bool bo8]
  p5 : PolyB W (.agg #[.bool bo5, .slice A5 n5 c5]) p
  p6 : PolyB W (.agg #[.bool bo6, .slice A6 n6 c6]) q
  r7 : R13 W (.agg #[.slice A7 n7 c7, .bool bo7]) p
  r8 : R13 W (.agg #[.slice A8 n8 c8, .bool bo8]) q
  bl : Below w.heap.size w W
theorem Tm7.below {w W W' : World} {b5 b6 b7 b8 : Nat} {bo5 bo6 bo7 bo8 : Bool} {A5 A6 A7 A8 : Option Addr} {n5 c5 n6 c6 n7 c7 n8 c8 : Nat} {p q : PolB} (h : Tm7 w W b5 b6 b7 b8 bo5 bo6 bo7 bo8 A5 A6 A7 A8 n5 c5 n6 c6 n7 c7 n8 c8 p q) (hb : Below W.heap.size W W') : Tm7 w W' b5 b6 b7 b8 bo5 bo6 bo7 bo8 A5 A6 A7 A8 n5 c5 n6 c6 n7 c7 n8 c8 p q :=
  ⟨h.q5.below hb h.q5.lt, h.q6.below hb h.q6.lt, h.q7.below hb h.q7.lt, h.q8.below hb h.q8.lt, h.p5.below hb, h.p6.below hb, h.r7.below hb, h.r8.below hb, h.bl.trans (hb.mono h.bl.size)⟩
set_option maxHeartbeats 8000000 in
set_option maxRecDepth 100000 in
theorem terms_law (v0 v1 : Value) (L M : List T2) (w : World) (h0 : SlA tB w v0 L) (h1 : SlA tB w v1 M) (l0 : L.length ≤ 9223372036854775807) (i0 : I64T L) (l1 : M.length ≤ 9223372036854775807) (i1 : I64T M) (ht : Tb w) :
    Calls Tryz.prog 5 #[v0, v1] w fun e w' => e = .returned (.bool true) ∧ Below w.heap.size w w' := by
  have HA := Lib.hid (awake13 w ht)
  have HTB := Lib.hid ht
  have HS0 := Lib.hid (fun W (hb : Below w.heap.size w W) => fineL_any v0 L W (h0.below hb) l0)
  have HS1 := Lib.hid (fun W (hb : Below w.heap.size w W) => fineL_any v1 M W (h1.below hb) l1)
  have HO0 := Lib.hid (fun W (hb : Below w.heap.size w W) (k : L.length ≤ 12) => of_any v0 L W (h0.below hb) i0 (by omega))
  have HO1 := Lib.hid (fun W (hb : Below w.heap.size w W) (k : M.length ≤ 12) => of_any v1 M W (h1.below hb) i1 (by omega))
  have HU0 := Lib.hid (fun W (hb : Below w.heap.size w W) (k : (∀ t ∈ L, t.2.natAbs ≤ 1125899906842624) ∧ L.length ≤ 12) => sum13 v0 L W (h0.below hb) (by omega) k.1)
  have HU1 := Lib.hid (fun W (hb : Below w.heap.size w W) (k : (∀ t ∈ M, t.2.natAbs ≤ 1125899906842624) ∧ M.length ≤ 12) => sum13 v1 M W (h1.below hb) (by omega) k.1)
  obtain ⟨S0, hS0⟩ : ∃ S, S = fiL L := ⟨_, rfl⟩
  obtain ⟨S1, hS1⟩ : ∃ S, S = fiL M := ⟨_, rfl⟩
  rw [← hS0] at HS0
  rw [← hS1] at HS1
  have E0 := Lib.hid hS0
  have E1 := Lib.hid hS1
  clear ht h0 h1 l0 l1 i0 i1 hS0 hS1
  go_enter Tryz.func5, Tryz.ntmps5
  go_wp2_with fail
  refine HA.out.mono ?_
  rintro e w1 ⟨rfl, hb1⟩
  have B1 := Lib.hid hb1
  clear hb1 HA
  go_wp2_with fail
  refine (HS0.out w1 B1.out).mono ?_
  rintro e w2 ⟨rfl, hb2⟩
  have B2 := Lib.hid (B1.out.trans (hb2.mono B1.out.size))
  clear hb2 HS0 B1
  cases S0 with
  | false =>
    go_wp2_with fail
    go_ret
    exact ⟨rfl, B2.out⟩
  | true =>
  go_wp2_with fail
  refine (HS1.out w2 B2.out).mono ?_
  rintro e w3 ⟨rfl, hb3⟩
  have B3 := Lib.hid (B2.out.trans (hb3.mono B2.out.size))
  clear hb3 HS1 B2
  cases S1 with
  | false =>
    go_wp2_with fail
    go_ret
    exact ⟨rfl, B3.out⟩
  | true =>
  have D0 := Lib.hid (fiL_bd E0.out.symm)
  have D1 := Lib.hid (fiL_bd E1.out.symm)
  clear E0 E1
  go_wp2_with fail
  refine (HO0.out w3 B3.out D0.out.2).mono ?_
  rintro e w5 ⟨x0, p, rfl, hp0, ho0, hb5⟩
  have P0 := Lib.hid hp0
  have O0 := Lib.hid ho0
  have B5 := Lib.hid (B3.out.trans (hb5.mono B3.out.size))
  clear hb5 HO0 B3 hp0 ho0
  go_wp2_with fail
  refine (HO1.out w5 B5.out D1.out.2).mono ?_
  rintro e w6 ⟨x1, q, rfl, hp1, ho1, hb6⟩
  have P1 := Lib.hid hp1
  have O1 := Lib.hid ho1
  have P0' := Lib.hid (P0.out.below hb6)
  have B6 := Lib.hid (B5.out.trans (hb6.mono B5.out.size))
  clear hb6 HO1 B5 hp1 ho1 P0
  obtain ⟨bo5, A5, n5, c5, rfl, -, -⟩ := P0'.out.parts
  obtain ⟨bo6, A6, n6, c6, rfl, -, -⟩ := P1.out.parts
  have hW : ∀ W, W = (w6.alloc (.cells #[.bool bo5, .slice A5 n5 c5] 27)).alloc (.cells #[.bool bo6, .slice A6 n6 c6] 27) → ∃ b5 b6, b5 = w6.heap.size ∧ b6 = w6.heap.size + 1 ∧ Arr W b5 27 [.bool bo5, .slice A5 n5 c5] ∧ Arr W b6 27 [.bool bo6, .slice A6 n6 c6] ∧ Below w6.heap.size w6 W := by
    intro W hW
    subst hW
    exact ⟨_, _, rfl, rfl, (Arr.new w6 _ [_, _]).alloc _, Arr.newAt (w6.alloc _) _ [_, _] _ (by simp), ((Below.refl _ _).alloc (Nat.le_refl _) _).alloc (by simp) _⟩
  have HW := Lib.hid hW
  clear hW
  go_upto_region 6 with fail
  have hW := HW.out
  clear HW
  generalize (w6.alloc (.cells #[.bool bo5, .slice A5 n5 c5] 27)).alloc (.cells #[.bool bo6, .slice A6 n6 c6] 27) = w7 at hW ⊢
  obtain ⟨b5, b6, hb5, hb6, q5, q6, hb7⟩ := hW w7 rfl
  rw [← hb6]
  rw [← hb5]
  have Q5 := Lib.hid q5
  have Q6 := Lib.hid q6
  have P5 := Lib.hid (P0'.out.below hb7)
  have P6 := Lib.hid (P1.out.below hb7)
  have B7 := Lib.hid (B6.out.trans (hb7.mono B6.out.size))
  clear hW hb5 hb6 q5 q6 hb7 P0' P1 B6
  go_wp2_with fail
  refine (HU0.out w7 B7.out D0.out).mono ?_
  rintro e w8 ⟨x7, r7, rfl, hr7, ho7, hb8⟩
  have er : r7 = p := ho7.uniq O0.out
  subst er
  have R7 := Lib.hid hr7
  have B8 := Lib.hid (B7.out.trans (hb8.mono B7.out.size))
  have Q5' := Lib.hid (Q5.out.below hb8 Q5.out.lt)
  have Q6' := Lib.hid (Q6.out.below hb8 Q6.out.lt)
  have P5' := Lib.hid (P5.out.below hb8)
  have P6' := Lib.hid (P6.out.below hb8)
  clear hr7 ho7 hb8 HU0 B7 Q5 Q6 P5 P6
  go_wp2_with fail
  refine (HU1.out w8 B8.out D1.out).mono ?_
  rintro e w9 ⟨x8, r8, rfl, hr8, ho8, hb9⟩
  have er : r8 = q := ho8.uniq O1.out
  subst er
  have R8 := Lib.hid hr8
  have R7' := Lib.hid (R7.out.below hb9)
  obtain ⟨bo7, A7, n7, c7, rfl, -, -, -⟩ := R7.out.parts
  obtain ⟨bo8, A8, n8, c8, rfl, -, -, -⟩ := R8.out.parts
  have B9 := Lib.hid (B8.out.trans (hb9.mono B8.out.size))
  have Q5 := Lib.hid (Q5'.out.below hb9 Q5'.out.lt)
  have Q6 := Lib.hid (Q6'.out.below hb9 Q6'.out.lt)
  have P5 := Lib.hid (P5'.out.below hb9)
  have P6 := Lib.hid (P6'.out.below hb9)
  clear hr8 ho8 hb9 HU1 B8 Q5' Q6' P5' P6' R7
  have hW : ∀ W, W = (w9.alloc (.cells #[.slice A7 n7 c7, .bool bo7] 49)).alloc (.cells #[.slice A8 n8 c8, .bool bo8] 49) → ∃ b7 b8, b7 = w9.heap.size ∧ b8 = w9.heap.size + 1 ∧ Tm7 w W b5 b6 b7 b8 bo5 bo6 bo7 bo8 A5 A6 A7 A8 n5 c5 n6 c6 n7 c7 n8 c8 r7 r8 := by
    intro W hW
    subst hW
    have k := ((Below.refl w9.heap.size w9).alloc (Nat.le_refl _) (.cells #[.slice A7 n7 c7, .bool bo7] 49)).alloc (by simp) (.cells #[.slice A8 n8 c8, .bool bo8] 49)
    exact ⟨_, _, rfl, rfl, Q5.out.below k Q5.out.lt, Q6.out.below k Q6.out.lt, (Arr.new w9 _ [_, _]).alloc _, Arr.newAt (w9.alloc _) _ [_, _] _ (by simp), P5.out.below k, P6.out.below k, R7'.out.below k, R8.out.below k, B9.out.trans (k.mono B9.out.size)⟩
  have HW := Lib.hid hW
  clear hW
  go_upto_region 7 with fail
  have hW := HW.out
  clear HW Q5 Q6 P5 P6 R7' R8 B9
  generalize (w9.alloc (.cells #[.slice A7 n7 c7, .bool bo7] 49)).alloc (.cells #[.slice A8 n8 c8, .bool bo8] 49) = w10 at hW ⊢
  obtain ⟨b7, b8, hb7, hb8, hr⟩ := hW w10 rfl
  rw [← hb8]
  rw [← hb7]
  have R := Lib.hid hr
  clear hW hb7 hb8 hr
  obtain ⟨p, hp⟩ : ∃ p, p = r7 := ⟨_, rfl⟩
  obtain ⟨q, hq⟩ : ∃ q, q = r8 := ⟨_, rfl⟩
  rw [← hp] at O0 R
  rw [← hq] at O1 R
  clear hp hq
  have LP := Lib.hid (show lenB p ≤ 12 from Nat.le_trans O0.out.len D0.out.2)
  have LQ := Lib.hid (show lenB q ≤ 12 from Nat.le_trans O1.out.len D1.out.2)
  have HI1 := Lib.hid (fun W (h : PolyB W (.agg #[.bool bo5, .slice A5 n5 c5]) p) (k : R13 W (.agg #[.slice A7 n7 c7, .bool bo7]) p) => is13 _ _ p W h k O0.out.ok (by have := LP.out; omega))
  have HI2 := Lib.hid (fun W (h : PolyB W (.agg #[.bool bo6, .slice A6 n6 c6]) q) (k : R13 W (.agg #[.slice A8 n8 c8, .bool bo8]) q) => is13 _ _ q W h k O1.out.ok (by have := LQ.out; omega))
  have HX1 := Lib.hid (fun W (k : R13 W (.agg #[.slice A7 n7 c7, .bool bo7]) p) (hb : Below w10.heap.size w10 W) => text13 _ p [97] [122] W k O0.out.ok (by have := LP.out; omega) (by decide) (by decide))
  have HX2 := Lib.hid (fun W (k : R13 W (.agg #[.slice A8 n8 c8, .bool bo8]) q) (hb : Below w10.heap.size w10 W) => text13 _ q [97] [122] W k O1.out.ok (by have := LQ.out; omega) (by decide) (by decide))
  have HX3 := Lib.hid (fun W (k : R13 W (.agg #[.slice A7 n7 c7, .bool bo7]) p) (hb : Below w10.heap.size w10 W) => text13 _ p [118] [119] W k O0.out.ok (by have := LP.out; omega) (by decide) (by decide))
  have HB1 := Lib.hid (fun W (k : PolyB W (.agg #[.bool bo5, .slice A5 n5 c5]) p) (hb : Below w10.heap.size w10 W) => bText_any _ p [97] [122] W k O0.out.ok (by have := LP.out; omega) (by decide) (by decide) (HTB.out.below (R.out.below hb).bl))
  have HB3 := Lib.hid (fun W (k : PolyB W (.agg #[.bool bo5, .slice A5 n5 c5]) p) (hb : Below w10.heap.size w10 W) => bText_any _ p [118] [119] W k O0.out.ok (by have := LP.out; omega) (by decide) (by decide) (HTB.out.below (R.out.below hb).bl))
  have HEQ := Lib.hid (fun W (h : PolyB W (.agg #[.bool bo5, .slice A5 n5 c5]) p) (k : PolyB W (.agg #[.bool bo6, .slice A6 n6 c6]) q) => bEqual_any _ _ p q W h k (by have : lenB p ≤ 12 := LP.out; unfold lenB at this; omega) (by have : lenB q ≤ 12 := LQ.out; unfold lenB at this; omega))
  have HIN := Lib.hid (fun (h : txtB [97] [122] p = txtB [97] [122] q) => txtB_inj O0.out.ok O1.out.ok h)
  obtain ⟨T1, hT1⟩ : ∃ T, T = txtB [97] [122] p := ⟨_, rfl⟩
  obtain ⟨T2, hT2⟩ : ∃ T, T = txtB [97] [122] q := ⟨_, rfl⟩
  obtain ⟨T3, hT3⟩ : ∃ T, T = txtB [118] [119] p := ⟨_, rfl⟩
  rw [← hT1] at HX1 HB1 HIN
  rw [← hT2] at HX2 HIN
  rw [← hT3] at HX3 HB3
  have HH1 := Lib.hid hT1
  have HH2 := Lib.hid hT2
  clear hT1 hT2 hT3 O0 O1 LP LQ D0 D1 HTB
  by_cases hpq : p = q
  · have HE := Lib.hid (show eqB p q = true from decide_eq_true hpq)
    have HT := Lib.hid (show T2 = T1 from by rw [HH2.out, HH1.out, hpq])
    rw [HE.out] at HEQ
    rw [HT.out] at HX2
    clear HE HT HIN HH1 HH2 hpq
    go_upto_region 7 with fail
    refine wp_region_phy (fun a b => Below a.heap.size a b) (fun h k => h.trans (k.mono h.size)) ((Below.refl _ _).drew) (by kernel_rfl) (by kernel_rfl) (by kernel_rfl) (by kernel_rfl) (phiT (fun i => ([some (.agg #[.slice A7 n7 c7, .bool bo7]), some (.string ⟨T1.toArray⟩), some (.agg #[.slice A8 n8 c8, .bool bo8]), some (.string ⟨T1.toArray⟩), some (.bool true), some (.bool true)] : List (Option Value)).getD i none) (fun i v w => True)) (fun i v w w' h hb => ?_) ⟨?_, ?_, ?_, ?_, ?_, ?_, trivial⟩ ?_
    · unfold phiT at h ⊢
      split
      · next u hu => rw [hu] at h; exact h
      · next hu =>
        rw [hu] at h
        exact True.intro
    · intro x w1 bA hT hdep hold hb
      refine .inl ⟨trivial, ?_⟩
      have e7 : bA.tmps[7]?.getD undef = .pointer (some ⟨b7, 0, none⟩) := hb 7
      have cc0 := (R.out.below hT).q7.cell 0
      have cc1 := (R.out.below hT).q7.cell 1
      refine phx_run (.agg #[.slice A7 n7 c7, .bool bo7]) ?_ (Below.refl _ _) rfl
      clear hb hdep hold
      go_simp
    · intro x w1 bA hT hdep hold hb
      refine .inl ⟨trivial, ?_⟩
      have e28 : bA.tmps[28]?.getD undef = .agg #[.slice A7 n7 c7, .bool bo7] := (hb 28).trans (hdep 0 (by decide))
      refine phx_call ?_ ((HX1.out w1 (R.out.below hT).r7 hT).mono fun e w' h => ⟨_, h.1, h.2, rfl⟩)
      clear hb hdep hold
      go_simp
    · intro x w1 bA hT hdep hold hb
      refine .inl ⟨trivial, ?_⟩
      have e8 : bA.tmps[8]?.getD undef = .pointer (some ⟨b8, 0, none⟩) := hb 8
      have cc0 := (R.out.below hT).q8.cell 0
      have cc1 := (R.out.below hT).q8.cell 1
      refine phx_run (.agg #[.slice A8 n8 c8, .bool bo8]) ?_ (Below.refl _ _) rfl
      clear hb hdep hold
      go_simp
    · intro x w1 bA hT hdep hold hb
      refine .inl ⟨trivial, ?_⟩
      have e30 : bA.tmps[30]?.getD undef = .agg #[.slice A8 n8 c8, .bool bo8] := (hb 30).trans (hdep 2 (by decide))
      refine phx_call ?_ ((HX2.out w1 (R.out.below hT).r8 hT).mono fun e w' h => ⟨_, h.1, h.2, rfl⟩)
      clear hb hdep hold
      go_simp
    · intro x w1 bA hT hdep hold hb
      refine .inl ⟨trivial, ?_⟩
      have e29 : bA.tmps[29]?.getD undef = .string ⟨T1.toArray⟩ := (hb 29).trans (hdep 1 (by decide))
      have e31 : bA.tmps[31]?.getD undef = .string ⟨T1.toArray⟩ := (hb 31).trans (hdep 3 (by decide))
      refine phx_run (.bool true) ?_ (Below.refl _ _) rfl
      clear hb hdep hold
      go_simp
    · intro x w1 bA hT hdep hold hb
      refine .inl ⟨trivial, ?_⟩
      have e32 : bA.tmps[32]?.getD undef = .bool true := (hb 32).trans (hdep 4 (by decide))
      refine phx_run (.bool true) ?_ (Below.refl _ _) rfl
      clear hb hdep hold
      go_simp
    intro x w1 hT hall
    have x0e : x 0 = .agg #[.slice A7 n7 c7, .bool bo7] := hall 0 (by decide)
    have x1e : x 1 = .string ⟨T1.toArray⟩ := hall 1 (by decide)
    have x2e : x 2 = .agg #[.slice A8 n8 c8, .bool bo8] := hall 2 (by decide)
    have x3e : x 3 = .string ⟨T1.toArray⟩ := hall 3 (by decide)
    have x4e : x 4 = .bool true := hall 4 (by decide)
    have x5e : x 5 = .bool true := hall 5 (by decide)
    simp only [putAll, dstOf, Act.put, List.map_cons, List.map_nil, List.setIfInBounds_toArray, List.set_cons_succ, List.set_cons_zero, Nat.reduceAdd, x0e, x1e, x2e, x3e, x4e, x5e]
    clear x0e x1e x2e x3e x4e x5e hall
    have R' := Lib.hid (R.out.below hT)
    have HXa := Lib.hid (fun W (h : R13 W (.agg #[.slice A7 n7 c7, .bool bo7]) p) (hb : Below w1.heap.size w1 W) => HX1.out W h (hT.trans (hb.mono hT.size)))
    have HXc := Lib.hid (fun W (h : R13 W (.agg #[.slice A7 n7 c7, .bool bo7]) p) (hb : Below w1.heap.size w1 W) => HX3.out W h (hT.trans (hb.mono hT.size)))
    have HBa := Lib.hid (fun W (h : PolyB W (.agg #[.bool bo5, .slice A5 n5 c5]) p) (hb : Below w1.heap.size w1 W) => HB1.out W h (hT.trans (hb.mono hT.size)))
    have HBc := Lib.hid (fun W (h : PolyB W (.agg #[.bool bo5, .slice A5 n5 c5]) p) (hb : Below w1.heap.size w1 W) => HB3.out W h (hT.trans (hb.mono hT.size)))
    clear R HX1 HX2 HX3 HB1 HB3 hT
    have R := Lib.hid R'.out
    have HX1 := Lib.hid HXa.out
    have HX3 := Lib.hid HXc.out
    have HB1 := Lib.hid HBa.out
    have HB3 := Lib.hid HBc.out
    clear R' HXa HXc HBa HBc
    obtain ⟨w9, hw9⟩ : ∃ W, W = w1 := ⟨_, rfl⟩
    rw [← hw9] at R HX1 HX3 HB1 HB3 ⊢
    clear hw9
    go_upto_region 8 with fail
    refine wp_region_phy (fun a b => Below a.heap.size a b) (fun h k => h.trans (k.mono h.size)) ((Below.refl _ _).drew) (by kernel_rfl) (by kernel_rfl) (by kernel_rfl) (by kernel_rfl) (phiT (fun i => ([some (.agg #[.bool bo5, .slice A5 n5 c5]), some (.agg #[.slice A7 n7 c7, .bool bo7]), some (.bool true), some (.bool true), some (.agg #[.bool bo6, .slice A6 n6 c6]), some (.agg #[.slice A8 n8 c8, .bool bo8]), some (.bool true), some (.bool true), some (.bool true), some (.agg #[.bool bo5, .slice A5 n5 c5]), some (.agg #[.bool bo6, .slice A6 n6 c6]), some (.bool true), some (.bool true), some (.bool true), some (.bool true), some (.bool true), some (.agg #[.bool bo5, .slice A5 n5 c5]), some (.string ⟨T1.toArray⟩), some (.agg #[.slice A7 n7 c7, .bool bo7]), some (.string ⟨T1.toArray⟩), some (.bool true), some (.bool true), some (.bool true), some (.agg #[.bool bo5, .slice A5 n5 c5]), some (.string ⟨T3.toArray⟩), some (.agg #[.slice A7 n7 c7, .bool bo7]), some (.string ⟨T3.toArray⟩), some (.bool true), some (.bool true), some (.bool true)] : List (Option Value)).getD i none) (fun i v w => True)) (fun i v w w' h hb => ?_) ⟨?_, ?_, ?_, ?_, ?_, ?_, ?_, ?_, ?_, ?_, ?_, ?_, ?_, ?_, ?_, ?_, ?_, ?_, ?_, ?_, ?_, ?_, ?_, ?_, ?_, ?_, ?_, ?_, ?_, ?_, trivial⟩ ?_
    · unfold phiT at h ⊢
      split
      · next u hu => rw [hu] at h; exact h
      · next hu =>
        rw [hu] at h
        exact True.intro
    · intro x w1 bA hT hdep hold hb
      refine .inl ⟨trivial, ?_⟩
      have e5 : bA.tmps[5]?.getD undef = .pointer (some ⟨b5, 0, none⟩) := hb 5
      have cc0 := (R.out.below hT).q5.cell 0
      have cc1 := (R.out.below hT).q5.cell 1
      refine phx_run (.agg #[.bool bo5, .slice A5 n5 c5]) ?_ (Below.refl _ _) rfl
      clear hb hdep hold
      go_simp
    · intro x w1 bA hT hdep hold hb
      refine .inl ⟨trivial, ?_⟩
      have e7 : bA.tmps[7]?.getD undef = .pointer (some ⟨b7, 0, none⟩) := hb 7
      have cc0 := (R.out.below hT).q7.cell 0
      have cc1 := (R.out.below hT).q7.cell 1
      refine phx_run (.agg #[.slice A7 n7 c7, .bool bo7]) ?_ (Below.refl _ _) rfl
      clear hb hdep hold
      go_simp
    · intro x w1 bA hT hdep hold hb
      refine .inl ⟨trivial, ?_⟩
      have e33 : bA.tmps[33]?.getD undef = .agg #[.bool bo5, .slice A5 n5 c5] := (hb 33).trans (hdep 0 (by decide))
      have e34 : bA.tmps[34]?.getD undef = .agg #[.slice A7 n7 c7, .bool bo7] := (hb 34).trans (hdep 1 (by decide))
      refine phx_call ?_ ((HI1.out w1 (R.out.below hT).p5 (R.out.below hT).r7).mono fun e w' h => ⟨_, h.1, h.2, rfl⟩)
      clear hb hdep hold
      go_simp
    · intro x w1 bA hT hdep hold hb
      refine .inl ⟨trivial, ?_⟩
      have e35 : bA.tmps[35]?.getD undef = .bool true := (hb 35).trans (hdep 2 (by decide))
      refine phx_run (.bool true) ?_ (Below.refl _ _) rfl
      clear hb hdep hold
      go_simp
    · intro x w1 bA hT hdep hold hb
      refine .inl ⟨⟨36, rfl, (hb 36).trans (hdep 3 (by decide))⟩, ?_⟩
      have e6 : bA.tmps[6]?.getD undef = .pointer (some ⟨b6, 0, none⟩) := hb 6
      have cc0 := (R.out.below hT).q6.cell 0
      have cc1 := (R.out.below hT).q6.cell 1
      refine phx_run (.agg #[.bool bo6, .slice A6 n6 c6]) ?_ (Below.refl _ _) rfl
      clear hb hdep hold
      go_simp
    · intro x w1 bA hT hdep hold hb
      refine .inl ⟨⟨36, rfl, (hb 36).trans (hdep 3 (by decide))⟩, ?_⟩
      have e8 : bA.tmps[8]?.getD undef = .pointer (some ⟨b8, 0, none⟩) := hb 8
      have cc0 := (R.out.below hT).q8.cell 0
      have cc1 := (R.out.below hT).q8.cell 1
      refine phx_run (.agg #[.slice A8 n8 c8, .bool bo8]) ?_ (Below.refl _ _) rfl
      clear hb hdep hold
      go_simp
    · intro x w1 bA hT hdep hold hb
      refine .inl ⟨⟨36, rfl, (hb 36).trans (hdep 3 (by decide))⟩, ?_⟩
      have e37 : bA.tmps[37]?.getD undef = .agg #[.bool bo6, .slice A6 n6 c6] := (hb 37).trans (hdep 4 (by decide))
      have e38 : bA.tmps[38]?.getD undef = .agg #[.slice A8 n8 c8, .bool bo8] := (hb 38).trans (hdep 5 (by decide))
      refine phx_call ?_ ((HI2.out w1 (R.out.below hT).p6 (R.out.below hT).r8).mono fun e w' h => ⟨_, h.1, h.2, rfl⟩)
      clear hb hdep hold
      go_simp
    · intro x w1 bA hT hdep hold hb
      refine .inl ⟨trivial, ?_⟩
      have e36 : bA.tmps[36]?.getD undef = .bool true := (hb 36).trans (hdep 3 (by decide))
      have e39 : bA.tmps[39]?.getD undef = .bool true := (hb 39).trans (hdep 6 (by decide))
      refine phx_run (.bool true) ?_ (Below.refl _ _) rfl
      clear hb hdep hold
      go_simp
    · intro x w1 bA hT hdep hold hb
      refine .inl ⟨trivial, ?_⟩
      have e40 : bA.tmps[40]?.getD undef = .bool true := (hb 40).trans (hdep 7 (by decide))
      refine phx_run (.bool true) ?_ (Below.refl _ _) rfl
      clear hb hdep hold
      go_simp
    · intro x w1 bA hT hdep hold hb
      refine .inl ⟨⟨41, rfl, (hb 41).trans (hdep 8 (by decide))⟩, ?_⟩
      have e5 : bA.tmps[5]?.getD undef = .pointer (some ⟨b5, 0, none⟩) := hb 5
      have cc0 := (R.out.below hT).q5.cell 0
      have cc1 := (R.out.below hT).q5.cell 1
      refine phx_run (.agg #[.bool bo5, .slice A5 n5 c5]) ?_ (Below.refl _ _) rfl
      clear hb hdep hold
      go_simp
    · intro x w1 bA hT hdep hold hb
      refine .inl ⟨⟨41, rfl, (hb 41).trans (hdep 8 (by decide))⟩, ?_⟩
      have e6 : bA.tmps[6]?.getD undef = .pointer (some ⟨b6, 0, none⟩) := hb 6
      have cc0 := (R.out.below hT).q6.cell 0
      have cc1 := (R.out.below hT).q6.cell 1
      refine phx_run (.agg #[.bool bo6, .slice A6 n6 c6]) ?_ (Below.refl _ _) rfl
      clear hb hdep hold
      go_simp
    · intro x w1 bA hT hdep hold hb
      refine .inl ⟨⟨41, rfl, (hb 41).trans (hdep 8 (by decide))⟩, ?_⟩
      have e42 : bA.tmps[42]?.getD undef = .agg #[.bool bo5, .slice A5 n5 c5] := (hb 42).trans (hdep 9 (by decide))
      have e43 : bA.tmps[43]?.getD undef = .agg #[.bool bo6, .slice A6 n6 c6] := (hb 43).trans (hdep 10 (by decide))
      refine phx_call ?_ ((HEQ.out w1 (R.out.below hT).p5 (R.out.below hT).p6).mono fun e w' h => ⟨_, h.1, h.2, rfl⟩)
      clear hb hdep hold
      go_simp
    · intro x w1 bA hT hdep hold hb
      refine .inl ⟨⟨41, rfl, (hb 41).trans (hdep 8 (by decide))⟩, ?_⟩
      have e9 : bA.tmps[9]?.getD undef = .bool true := hb 9
      refine phx_run (.bool true) ?_ (Below.refl _ _) rfl
      clear hb hdep hold
      go_simp
    · intro x w1 bA hT hdep hold hb
      refine .inl ⟨⟨41, rfl, (hb 41).trans (hdep 8 (by decide))⟩, ?_⟩
      have e44 : bA.tmps[44]?.getD undef = .bool true := (hb 44).trans (hdep 11 (by decide))
      have e45 : bA.tmps[45]?.getD undef = .bool true := (hb 45).trans (hdep 12 (by decide))
      refine phx_run (.bool true) ?_ (Below.refl _ _) rfl
      clear hb hdep hold
      go_simp
    · intro x w1 bA hT hdep hold hb
      refine .inl ⟨trivial, ?_⟩
      have e41 : bA.tmps[41]?.getD undef = .bool true := (hb 41).trans (hdep 8 (by decide))
      have e46 : bA.tmps[46]?.getD undef = .bool true := (hb 46).trans (hdep 13 (by decide))
      refine phx_run (.bool true) ?_ (Below.refl _ _) rfl
      clear hb hdep hold
      go_simp
    · intro x w1 bA hT hdep hold hb
      refine .inl ⟨trivial, ?_⟩
      have e47 : bA.tmps[47]?.getD undef = .bool true := (hb 47).trans (hdep 14 (by decide))
      refine phx_run (.bool true) ?_ (Below.refl _ _) rfl
      clear hb hdep hold
      go_simp
    · intro x w1 bA hT hdep hold hb
      refine .inl ⟨⟨48, rfl, (hb 48).trans (hdep 15 (by decide))⟩, ?_⟩
      have e5 : bA.tmps[5]?.getD undef = .pointer (some ⟨b5, 0, none⟩) := hb 5
      have cc0 := (R.out.below hT).q5.cell 0
      have cc1 := (R.out.below hT).q5.cell 1
      refine phx_run (.agg #[.bool bo5, .slice A5 n5 c5]) ?_ (Below.refl _ _) rfl
      clear hb hdep hold
      go_simp
    · intro x w1 bA hT hdep hold hb
      refine .inl ⟨⟨48, rfl, (hb 48).trans (hdep 15 (by decide))⟩, ?_⟩
      have e49 : bA.tmps[49]?.getD undef = .agg #[.bool bo5, .slice A5 n5 c5] := (hb 49).trans (hdep 16 (by decide))
      refine phx_call ?_ ((HB1.out w1 (R.out.below hT).p5 hT).mono fun e w' h => ⟨_, h.1, h.2, rfl⟩)
      clear hb hdep hold
      go_simp
    · intro x w1 bA hT hdep hold hb
      refine .inl ⟨⟨48, rfl, (hb 48).trans (hdep 15 (by decide))⟩, ?_⟩
      have e7 : bA.tmps[7]?.getD undef = .pointer (some ⟨b7, 0, none⟩) := hb 7
      have cc0 := (R.out.below hT).q7.cell 0
      have cc1 := (R.out.below hT).q7.cell 1
      refine phx_run (.agg #[.slice A7 n7 c7, .bool bo7]) ?_ (Below.refl _ _) rfl
      clear hb hdep hold
      go_simp
    · intro x w1 bA hT hdep hold hb
      refine .inl ⟨⟨48, rfl, (hb 48).trans (hdep 15 (by decide))⟩, ?_⟩
      have e51 : bA.tmps[51]?.getD undef = .agg #[.slice A7 n7 c7, .bool bo7] := (hb 51).trans (hdep 18 (by decide))
      refine phx_call ?_ ((HX1.out w1 (R.out.below hT).r7 hT).mono fun e w' h => ⟨_, h.1, h.2, rfl⟩)
      clear hb hdep hold
      go_simp
    · intro x w1 bA hT hdep hold hb
      refine .inl ⟨⟨48, rfl, (hb 48).trans (hdep 15 (by decide))⟩, ?_⟩
      have e50 : bA.tmps[50]?.getD undef = .string ⟨T1.toArray⟩ := (hb 50).trans (hdep 17 (by decide))
      have e52 : bA.tmps[52]?.getD undef = .string ⟨T1.toArray⟩ := (hb 52).trans (hdep 19 (by decide))
      refine phx_run (.bool true) ?_ (Below.refl _ _) rfl
      clear hb hdep hold
      go_simp
    · intro x w1 bA hT hdep hold hb
      refine .inl ⟨trivial, ?_⟩
      have e48 : bA.tmps[48]?.getD undef = .bool true := (hb 48).trans (hdep 15 (by decide))
      have e53 : bA.tmps[53]?.getD undef = .bool true := (hb 53).trans (hdep 20 (by decide))
      refine phx_run (.bool true) ?_ (Below.refl _ _) rfl
      clear hb hdep hold
      go_simp
    · intro x w1 bA hT hdep hold hb
      refine .inl ⟨trivial, ?_⟩
      have e54 : bA.tmps[54]?.getD undef = .bool true := (hb 54).trans (hdep 21 (by decide))
      refine phx_run (.bool true) ?_ (Below.refl _ _) rfl
      clear hb hdep hold
      go_simp
    · intro x w1 bA hT hdep hold hb
      refine .inl ⟨⟨55, rfl, (hb 55).trans (hdep 22 (by decide))⟩, ?_⟩
      have e5 : bA.tmps[5]?.getD undef = .pointer (some ⟨b5, 0, none⟩) := hb 5
      have cc0 := (R.out.below hT).q5.cell 0
      have cc1 := (R.out.below hT).q5.cell 1
      refine phx_run (.agg #[.bool bo5, .slice A5 n5 c5]) ?_ (Below.refl _ _) rfl
      clear hb hdep hold
      go_simp
    · intro x w1 bA hT hdep hold hb
      refine .inl ⟨⟨55, rfl, (hb 55).trans (hdep 22 (by decide))⟩, ?_⟩
      have e56 : bA.tmps[56]?.getD undef = .agg #[.bool bo5, .slice A5 n5 c5] := (hb 56).trans (hdep 23 (by decide))
      refine phx_call ?_ ((HB3.out w1 (R.out.below hT).p5 hT).mono fun e w' h => ⟨_, h.1, h.2, rfl⟩)
      clear hb hdep hold
      go_simp
    · intro x w1 bA hT hdep hold hb
      refine .inl ⟨⟨55, rfl, (hb 55).trans (hdep 22 (by decide))⟩, ?_⟩
      have e7 : bA.tmps[7]?.getD undef = .pointer (some ⟨b7, 0, none⟩) := hb 7
      have cc0 := (R.out.below hT).q7.cell 0
      have cc1 := (R.out.below hT).q7.cell 1
      refine phx_run (.agg #[.slice A7 n7 c7, .bool bo7]) ?_ (Below.refl _ _) rfl
      clear hb hdep hold
      go_simp
    · intro x w1 bA hT hdep hold hb
      refine .inl ⟨⟨55, rfl, (hb 55).trans (hdep 22 (by decide))⟩, ?_⟩
      have e58 : bA.tmps[58]?.getD undef = .agg #[.slice A7 n7 c7, .bool bo7] := (hb 58).trans (hdep 25 (by decide))
      refine phx_call ?_ ((HX3.out w1 (R.out.below hT).r7 hT).mono fun e w' h => ⟨_, h.1, h.2, rfl⟩)
      clear hb hdep hold
      go_simp
    · intro x w1 bA hT hdep hold hb
      refine .inl ⟨⟨55, rfl, (hb 55).trans (hdep 22 (by decide))⟩, ?_⟩
      have e57 : bA.tmps[57]?.getD undef = .string ⟨T3.toArray⟩ := (hb 57).trans (hdep 24 (by decide))
      have e59 : bA.tmps[59]?.getD undef = .string ⟨T3.toArray⟩ := (hb 59).trans (hdep 26 (by decide))
      refine phx_run (.bool true) ?_ (Below.refl _ _) rfl
      clear hb hdep hold
      go_simp
    · intro x w1 bA hT hdep hold hb
      refine .inl ⟨trivial, ?_⟩
      have e55 : bA.tmps[55]?.getD undef = .bool true := (hb 55).trans (hdep 22 (by decide))
      have e60 : bA.tmps[60]?.getD undef = .bool true := (hb 60).trans (hdep 27 (by decide))
      refine phx_run (.bool true) ?_ (Below.refl _ _) rfl
      clear hb hdep hold
      go_simp
    · intro x w1 bA hT hdep hold hb
      refine .inl ⟨trivial, ?_⟩
      have e61 : bA.tmps[61]?.getD undef = .bool true := (hb 61).trans (hdep 28 (by decide))
      refine phx_run (.bool true) ?_ (Below.refl _ _) rfl
      clear hb hdep hold
      go_simp
    intro x w1 hT hall
    have x29e : x 29 = .bool true := hall 29 (by decide)
    clear hall
    refine end_look 4 29 (by kernel_rfl) (by kernel_rfl) (by kernel_rfl) x29e (fun T hT4 => ?_)
    clear x29e
    have HBF := Lib.hid ((R.out.below hT).bl)
    clear hT
    go_wp2_with fail
    go_ret
    exact ⟨by simp only [Array.getD_eq_getD_getElem?, hT4], HBF.out⟩
  · have HE := Lib.hid (show eqB p q = false from decide_eq_false hpq)
    have hne : T1 ≠ T2 := fun h => hpq (HIN.out h)
    have NB := Lib.hid (show (T1 == T2) = false ∧ decide (T1 = T2) = false from ⟨beq_eq_false_iff_ne.2 hne, decide_eq_false hne⟩)
    rw [HE.out] at HEQ
    clear HE HIN HH1 HH2 hpq hne
    go_upto_region 7 with fail
    refine wp_region_phy (fun a b => Below a.heap.size a b) (fun h k => h.trans (k.mono h.size)) ((Below.refl _ _).drew) (by kernel_rfl) (by kernel_rfl) (by kernel_rfl) (by kernel_rfl) (phiT (fun i => ([some (.agg #[.slice A7 n7 c7, .bool bo7]), some (.string ⟨T1.toArray⟩), some (.agg #[.slice A8 n8 c8, .bool bo8]), some (.string ⟨T2.toArray⟩), some (.bool false), some (.bool false)] : List (Option Value)).getD i none) (fun i v w => True)) (fun i v w w' h hb => ?_) ⟨?_, ?_, ?_, ?_, ?_, ?_, trivial⟩ ?_
    · unfold phiT at h ⊢
      split
      · next u hu => rw [hu] at h; exact h
      · next hu =>
        rw [hu] at h
        exact True.intro
    · intro x w1 bA hT hdep hold hb
      refine .inl ⟨trivial, ?_⟩
      have e7 : bA.tmps[7]?.getD undef = .pointer (some ⟨b7, 0, none⟩) := hb 7
      have cc0 := (R.out.below hT).q7.cell 0
      have cc1 := (R.out.below hT).q7.cell 1
      refine phx_run (.agg #[.slice A7 n7 c7, .bool bo7]) ?_ (Below.refl _ _) rfl
      clear hb hdep hold
      go_simp
    · intro x w1 bA hT hdep hold hb
      refine .inl ⟨trivial, ?_⟩
      have e28 : bA.tmps[28]?.getD undef = .agg #[.slice A7 n7 c7, .bool bo7] := (hb 28).trans (hdep 0 (by decide))
      refine phx_call ?_ ((HX1.out w1 (R.out.below hT).r7 hT).mono fun e w' h => ⟨_, h.1, h.2, rfl⟩)
      clear hb hdep hold
      go_simp
    · intro x w1 bA hT hdep hold hb
      refine .inl ⟨trivial, ?_⟩
      have e8 : bA.tmps[8]?.getD undef = .pointer (some ⟨b8, 0, none⟩) := hb 8
      have cc0 := (R.out.below hT).q8.cell 0
      have cc1 := (R.out.below hT).q8.cell 1
      refine phx_run (.agg #[.slice A8 n8 c8, .bool bo8]) ?_ (Below.refl _ _) rfl
      clear hb hdep hold
      go_simp
    · intro x w1 bA hT hdep hold hb
      refine .inl ⟨trivial, ?_⟩
      have e30 : bA.tmps[30]?.getD undef = .agg #[.slice A8 n8 c8, .bool bo8] := (hb 30).trans (hdep 2 (by decide))
      refine phx_call ?_ ((HX2.out w1 (R.out.below hT).r8 hT).mono fun e w' h => ⟨_, h.1, h.2, rfl⟩)
      clear hb hdep hold
      go_simp
    · intro x w1 bA hT hdep hold hb
      refine .inl ⟨trivial, ?_⟩
      have e29 : bA.tmps[29]?.getD undef = .string ⟨T1.toArray⟩ := (hb 29).trans (hdep 1 (by decide))
      have e31 : bA.tmps[31]?.getD undef = .string ⟨T2.toArray⟩ := (hb 31).trans (hdep 3 (by decide))
      have n1 := NB.out.1
      have n2 := NB.out.2
      refine phx_run (.bool false) ?_ (Below.refl _ _) rfl
      clear hb hdep hold
      go_simp
    · intro x w1 bA hT hdep hold hb
      refine .inl ⟨trivial, ?_⟩
      have e32 : bA.tmps[32]?.getD undef = .bool false := (hb 32).trans (hdep 4 (by decide))
      refine phx_run (.bool false) ?_ (Below.refl _ _) rfl
      clear hb hdep hold
      go_simp
    intro x w1 hT hall
    have x0e : x 0 = .agg #[.slice A7 n7 c7, .bool bo7] := hall 0 (by decide)
    have x1e : x 1 = .string ⟨T1.toArray⟩ := hall 1 (by decide)
    have x2e : x 2 = .agg #[.slice A8 n8 c8, .bool bo8] := hall 2 (by decide)
    have x3e : x 3 = .string ⟨T2.toArray⟩ := hall 3 (by decide)
    have x4e : x 4 = .bool false := hall 4 (by decide)
    have x5e : x 5 = .bool false := hall 5 (by decide)
    simp only [putAll, dstOf, Act.put, List.map_cons, List.map_nil, List.setIfInBounds_toArray, List.set_cons_succ, List.set_cons_zero, Nat.reduceAdd, x0e, x1e, x2e, x3e, x4e, x5e]
    clear x0e x1e x2e x3e x4e x5e hall
    have R' := Lib.hid (R.out.below hT)
    have HXa := Lib.hid (fun W (h : R13 W (.agg #[.slice A7 n7 c7, .bool bo7]) p) (hb : Below w1.heap.size w1 W) => HX1.out W h (hT.trans (hb.mono hT.size)))
    have HXc := Lib.hid (fun W (h : R13 W (.agg #[.slice A7 n7 c7, .bool bo7]) p) (hb : Below w1.heap.size w1 W) => HX3.out W h (hT.trans (hb.mono hT.size)))
    have HBa := Lib.hid (fun W (h : PolyB W (.agg #[.bool bo5, .slice A5 n5 c5]) p) (hb : Below w1.heap.size w1 W) => HB1.out W h (hT.trans (hb.mono hT.size)))
    have HBc := Lib.hid (fun W (h : PolyB W (.agg #[.bool bo5, .slice A5 n5 c5]) p) (hb : Below w1.heap.size w1 W) => HB3.out W h (hT.trans (hb.mono hT.size)))
    clear R HX1 HX2 HX3 HB1 HB3 hT
    have R := Lib.hid R'.out
    have HX1 := Lib.hid HXa.out
    have HX3 := Lib.hid HXc.out
    have HB1 := Lib.hid HBa.out
    have HB3 := Lib.hid HBc.out
    clear R' HXa HXc HBa HBc
    obtain ⟨w9, hw9⟩ : ∃ W, W = w1 := ⟨_, rfl⟩
    rw [← hw9] at R HX1 HX3 HB1 HB3 ⊢
    clear hw9
    go_upto_region 8 with fail
    refine wp_region_phy (fun a b => Below a.heap.size a b) (fun h k => h.trans (k.mono h.size)) ((Below.refl _ _).drew) (by kernel_rfl) (by kernel_rfl) (by kernel_rfl) (by kernel_rfl) (phiT (fun i => ([some (.agg #[.bool bo5, .slice A5 n5 c5]), some (.agg #[.slice A7 n7 c7, .bool bo7]), some (.bool true), some (.bool true), some (.agg #[.bool bo6, .slice A6 n6 c6]), some (.agg #[.slice A8 n8 c8, .bool bo8]), some (.bool true), some (.bool true), some (.bool true), some (.agg #[.bool bo5, .slice A5 n5 c5]), some (.agg #[.bool bo6, .slice A6 n6 c6]), some (.bool false), some (.bool false), some (.bool true), some (.bool true), some (.bool true), some (.agg #[.bool bo5, .slice A5 n5 c5]), some (.string ⟨T1.toArray⟩), some (.agg #[.slice A7 n7 c7, .bool bo7]), some (.string ⟨T1.toArray⟩), some (.bool true), some (.bool true), some (.bool true), some (.agg #[.bool bo5, .slice A5 n5 c5]), some (.string ⟨T3.toArray⟩), some (.agg #[.slice A7 n7 c7, .bool bo7]), some (.string ⟨T3.toArray⟩), some (.bool true), some (.bool true), some (.bool true)] : List (Option Value)).getD i none) (fun i v w => True)) (fun i v w w' h hb => ?_) ⟨?_, ?_, ?_, ?_, ?_, ?_, ?_, ?_, ?_, ?_, ?_, ?_, ?_, ?_, ?_, ?_, ?_, ?_, ?_, ?_, ?_, ?_, ?_, ?_, ?_, ?_, ?_, ?_, ?_, ?_, trivial⟩ ?_
    · unfold phiT at h ⊢
      split
      · next u hu => rw [hu] at h; exact h
      · next hu =>
        rw [hu] at h
        exact True.intro
    · intro x w1 bA hT hdep hold hb
      refine .inl ⟨trivial, ?_⟩
      have e5 : bA.tmps[5]?.getD undef = .pointer (some ⟨b5, 0, none⟩) := hb 5
      have cc0 := (R.out.below hT).q5.cell 0
      have cc1 := (R.out.below hT).q5.cell 1
      refine phx_run (.agg #[.bool bo5, .slice A5 n5 c5]) ?_ (Below.refl _ _) rfl
      clear hb hdep hold
      go_simp
    · intro x w1 bA hT hdep hold hb
      refine .inl ⟨trivial, ?_⟩
      have e7 : bA.tmps[7]?.getD undef = .pointer (some ⟨b7, 0, none⟩) := hb 7
      have cc0 := (R.out.below hT).q7.cell 0
      have cc1 := (R.out.below hT).q7.cell 1
      refine phx_run (.agg #[.slice A7 n7 c7, .bool bo7]) ?_ (Below.refl _ _) rfl
      clear hb hdep hold
      go_simp
    · intro x w1 bA hT hdep hold hb
      refine .inl ⟨trivial, ?_⟩
      have e33 : bA.tmps[33]?.getD undef = .agg #[.bool bo5, .slice A5 n5 c5] := (hb 33).trans (hdep 0 (by decide))
      have e34 : bA.tmps[34]?.getD undef = .agg #[.slice A7 n7 c7, .bool bo7] := (hb 34).trans (hdep 1 (by decide))
      refine phx_call ?_ ((HI1.out w1 (R.out.below hT).p5 (R.out.below hT).r7).mono fun e w' h => ⟨_, h.1, h.2, rfl⟩)
      clear hb hdep hold
      go_simp
    · intro x w1 bA hT hdep hold hb
      refine .inl ⟨trivial, ?_⟩
      have e35 : bA.tmps[35]?.getD undef = .bool true := (hb 35).trans (hdep 2 (by decide))
      refine phx_run (.bool true) ?_ (Below.refl _ _) rfl
      clear hb hdep hold
      go_simp
    · intro x w1 bA hT hdep hold hb
      refine .inl ⟨⟨36, rfl, (hb 36).trans (hdep 3 (by decide))⟩, ?_⟩
      have e6 : bA.tmps[6]?.getD undef = .pointer (some ⟨b6, 0, none⟩) := hb 6
      have cc0 := (R.out.below hT).q6.cell 0
      have cc1 := (R.out.below hT).q6.cell 1
      refine phx_run (.agg #[.bool bo6, .slice A6 n6 c6]) ?_ (Below.refl _ _) rfl
      clear hb hdep hold
      go_simp
    · intro x w1 bA hT hdep hold hb
      refine .inl ⟨⟨36, rfl, (hb 36).trans (hdep 3 (by decide))⟩, ?_⟩
      have e8 : bA.tmps[8]?.getD undef = .pointer (some ⟨b8, 0, none⟩) := hb 8
      have cc0 := (R.out.below hT).q8.cell 0
      have cc1 := (R.out.below hT).q8.cell 1
      refine phx_run (.agg #[.slice A8 n8 c8, .bool bo8]) ?_ (Below.refl _ _) rfl
      clear hb hdep hold
      go_simp
    · intro x w1 bA hT hdep hold hb
      refine .inl ⟨⟨36, rfl, (hb 36).trans (hdep 3 (by decide))⟩, ?_⟩
      have e37 : bA.tmps[37]?.getD undef = .agg #[.bool bo6, .slice A6 n6 c6] := (hb 37).trans (hdep 4 (by decide))
      have e38 : bA.tmps[38]?.getD undef = .agg #[.slice A8 n8 c8, .bool bo8] := (hb 38).trans (hdep 5 (by decide))
      refine phx_call ?_ ((HI2.out w1 (R.out.below hT).p6 (R.out.below hT).r8).mono fun e w' h => ⟨_, h.1, h.2, rfl⟩)
      clear hb hdep hold
      go_simp
    · intro x w1 bA hT hdep hold hb
      refine .inl ⟨trivial, ?_⟩
      have e36 : bA.tmps[36]?.getD undef = .bool true := (hb 36).trans (hdep 3 (by decide))
      have e39 : bA.tmps[39]?.getD undef = .bool true := (hb 39).trans (hdep 6 (by decide))
      refine phx_run (.bool true) ?_ (Below.refl _ _) rfl
      clear hb hdep hold
      go_simp
    · intro x w1 bA hT hdep hold hb
      refine .inl ⟨trivial, ?_⟩
      have e40 : bA.tmps[40]?.getD undef = .bool true := (hb 40).trans (hdep 7 (by decide))
      refine phx_run (.bool true) ?_ (Below.refl _ _) rfl
      clear hb hdep hold
      go_simp
    · intro x w1 bA hT hdep hold hb
      refine .inl ⟨⟨41, rfl, (hb 41).trans (hdep 8 (by decide))⟩, ?_⟩
      have e5 : bA.tmps[5]?.getD undef = .pointer (some ⟨b5, 0, none⟩) := hb 5
      have cc0 := (R.out.below hT).q5.cell 0
      have cc1 := (R.out.below hT).q5.cell 1
      refine phx_run (.agg #[.bool bo5, .slice A5 n5 c5]) ?_ (Below.refl _ _) rfl
      clear hb hdep hold
      go_simp
    · intro x w1 bA hT hdep hold hb
      refine .inl ⟨⟨41, rfl, (hb 41).trans (hdep 8 (by decide))⟩, ?_⟩
      have e6 : bA.tmps[6]?.getD undef = .pointer (some ⟨b6, 0, none⟩) := hb 6
      have cc0 := (R.out.below hT).q6.cell 0
      have cc1 := (R.out.below hT).q6.cell 1
      refine phx_run (.agg #[.bool bo6, .slice A6 n6 c6]) ?_ (Below.refl _ _) rfl
      clear hb hdep hold
      go_simp
    · intro x w1 bA hT hdep hold hb
      refine .inl ⟨⟨41, rfl, (hb 41).trans (hdep 8 (by decide))⟩, ?_⟩
      have e42 : bA.tmps[42]?.getD undef = .agg #[.bool bo5, .slice A5 n5 c5] := (hb 42).trans (hdep 9 (by decide))
      have e43 : bA.tmps[43]?.getD undef = .agg #[.bool bo6, .slice A6 n6 c6] := (hb 43).trans (hdep 10 (by decide))
      refine phx_call ?_ ((HEQ.out w1 (R.out.below hT).p5 (R.out.below hT).p6).mono fun e w' h => ⟨_, h.1, h.2, rfl⟩)
      clear hb hdep hold
      go_simp
    · intro x w1 bA hT hdep hold hb
      refine .inl ⟨⟨41, rfl, (hb 41).trans (hdep 8 (by decide))⟩, ?_⟩
      have e9 : bA.tmps[9]?.getD undef = .bool false := hb 9
      refine phx_run (.bool false) ?_ (Below.refl _ _) rfl
      clear hb hdep hold
      go_simp
    · intro x w1 bA hT hdep hold hb
      refine .inl ⟨⟨41, rfl, (hb 41).trans (hdep 8 (by decide))⟩, ?_⟩
      have e44 : bA.tmps[44]?.getD undef = .bool false := (hb 44).trans (hdep 11 (by decide))
      have e45 : bA.tmps[45]?.getD undef = .bool false := (hb 45).trans (hdep 12 (by decide))
      refine phx_run (.bool true) ?_ (Below.refl _ _) rfl
      clear hb hdep hold
      go_simp
    · intro x w1 bA hT hdep hold hb
      refine .inl ⟨trivial, ?_⟩
      have e41 : bA.tmps[41]?.getD undef = .bool true := (hb 41).trans (hdep 8 (by decide))
      have e46 : bA.tmps[46]?.getD undef = .bool true := (hb 46).trans (hdep 13 (by decide))
      refine phx_run (.bool true) ?_ (Below.refl _ _) rfl
      clear hb hdep hold
      go_simp
    · intro x w1 bA hT hdep hold hb
      refine .inl ⟨trivial, ?_⟩
      have e47 : bA.tmps[47]?.getD undef = .bool true := (hb 47).trans (hdep 14 (by decide))
      refine phx_run (.bool true) ?_ (Below.refl _ _) rfl
      clear hb hdep hold
      go_simp
    · intro x w1 bA hT hdep hold hb
      refine .inl ⟨⟨48, rfl, (hb 48).trans (hdep 15 (by decide))⟩, ?_⟩
      have e5 : bA.tmps[5]?.getD undef = .pointer (some ⟨b5, 0, none⟩) := hb 5
      have cc0 := (R.out.below hT).q5.cell 0
      have cc1 := (R.out.below hT).q5.cell 1
      refine phx_run (.agg #[.bool bo5, .slice A5 n5 c5]) ?_ (Below.refl _ _) rfl
      clear hb hdep hold
      go_simp
    · intro x w1 bA hT hdep hold hb
      refine .inl ⟨⟨48, rfl, (hb 48).trans (hdep 15 (by decide))⟩, ?_⟩
      have e49 : bA.tmps[49]?.getD undef = .agg #[.bool bo5, .slice A5 n5 c5] := (hb 49).trans (hdep 16 (by decide))
      refine phx_call ?_ ((HB1.out w1 (R.out.below hT).p5 hT).mono fun e w' h => ⟨_, h.1, h.2, rfl⟩)
      clear hb hdep hold
      go_simp
    · intro x w1 bA hT hdep hold hb
      refine .inl ⟨⟨48, rfl, (hb 48).trans (hdep 15 (by decide))⟩, ?_⟩
      have e7 : bA.tmps[7]?.getD undef = .pointer (some ⟨b7, 0, none⟩) := hb 7
      have cc0 := (R.out.below hT).q7.cell 0
      have cc1 := (R.out.below hT).q7.cell 1
      refine phx_run (.agg #[.slice A7 n7 c7, .bool bo7]) ?_ (Below.refl _ _) rfl
      clear hb hdep hold
      go_simp
    · intro x w1 bA hT hdep hold hb
      refine .inl ⟨⟨48, rfl, (hb 48).trans (hdep 15 (by decide))⟩, ?_⟩
      have e51 : bA.tmps[51]?.getD undef = .agg #[.slice A7 n7 c7, .bool bo7] := (hb 51).trans (hdep 18 (by decide))
      refine phx_call ?_ ((HX1.out w1 (R.out.below hT).r7 hT).mono fun e w' h => ⟨_, h.1, h.2, rfl⟩)
      clear hb hdep hold
      go_simp
    · intro x w1 bA hT hdep hold hb
      refine .inl ⟨⟨48, rfl, (hb 48).trans (hdep 15 (by decide))⟩, ?_⟩
      have e50 : bA.tmps[50]?.getD undef = .string ⟨T1.toArray⟩ := (hb 50).trans (hdep 17 (by decide))
      have e52 : bA.tmps[52]?.getD undef = .string ⟨T1.toArray⟩ := (hb 52).trans (hdep 19 (by decide))
      refine phx_run (.bool true) ?_ (Below.refl _ _) rfl
      clear hb hdep hold
      go_simp
    · intro x w1 bA hT hdep hold hb
      refine .inl ⟨trivial, ?_⟩
      have e48 : bA.tmps[48]?.getD undef = .bool true := (hb 48).trans (hdep 15 (by decide))
      have e53 : bA.tmps[53]?.getD undef = .bool true := (hb 53).trans (hdep 20 (by decide))
      refine phx_run (.bool true) ?_ (Below.refl _ _) rfl
      clear hb hdep hold
      go_simp
    · intro x w1 bA hT hdep hold hb
      refine .inl ⟨trivial, ?_⟩
      have e54 : bA.tmps[54]?.getD undef = .bool true := (hb 54).trans (hdep 21 (by decide))
      refine phx_run (.bool true) ?_ (Below.refl _ _) rfl
      clear hb hdep hold
      go_simp
    · intro x w1 bA hT hdep hold hb
      refine .inl ⟨⟨55, rfl, (hb 55).trans (hdep 22 (by decide))⟩, ?_⟩
      have e5 : bA.tmps[5]?.getD undef = .pointer (some ⟨b5, 0, none⟩) := hb 5
      have cc0 := (R.out.below hT).q5.cell 0
      have cc1 := (R.out.below hT).q5.cell 1
      refine phx_run (.agg #[.bool bo5, .slice A5 n5 c5]) ?_ (Below.refl _ _) rfl
      clear hb hdep hold
      go_simp
    · intro x w1 bA hT hdep hold hb
      refine .inl ⟨⟨55, rfl, (hb 55).trans (hdep 22 (by decide))⟩, ?_⟩
      have e56 : bA.tmps[56]?.getD undef = .agg #[.bool bo5, .slice A5 n5 c5] := (hb 56).trans (hdep 23 (by decide))
      refine phx_call ?_ ((HB3.out w1 (R.out.below hT).p5 hT).mono fun e w' h => ⟨_, h.1, h.2, rfl⟩)
      clear hb hdep hold
      go_simp
    · intro x w1 bA hT hdep hold hb
      refine .inl ⟨⟨55, rfl, (hb 55).trans (hdep 22 (by decide))⟩, ?_⟩
      have e7 : bA.tmps[7]?.getD undef = .pointer (some ⟨b7, 0, none⟩) := hb 7
      have cc0 := (R.out.below hT).q7.cell 0
      have cc1 := (R.out.below hT).q7.cell 1
      refine phx_run (.agg #[.slice A7 n7 c7, .bool bo7]) ?_ (Below.refl _ _) rfl
      clear hb hdep hold
      go_simp
    · intro x w1 bA hT hdep hold hb
      refine .inl ⟨⟨55, rfl, (hb 55).trans (hdep 22 (by decide))⟩, ?_⟩
      have e58 : bA.tmps[58]?.getD undef = .agg #[.slice A7 n7 c7, .bool bo7] := (hb 58).trans (hdep 25 (by decide))
      refine phx_call ?_ ((HX3.out w1 (R.out.below hT).r7 hT).mono fun e w' h => ⟨_, h.1, h.2, rfl⟩)
      clear hb hdep hold
      go_simp
    · intro x w1 bA hT hdep hold hb
      refine .inl ⟨⟨55, rfl, (hb 55).trans (hdep 22 (by decide))⟩, ?_⟩
      have e57 : bA.tmps[57]?.getD undef = .string ⟨T3.toArray⟩ := (hb 57).trans (hdep 24 (by decide))
      have e59 : bA.tmps[59]?.getD undef = .string ⟨T3.toArray⟩ := (hb 59).trans (hdep 26 (by decide))
      refine phx_run (.bool true) ?_ (Below.refl _ _) rfl
      clear hb hdep hold
      go_simp
    · intro x w1 bA hT hdep hold hb
      refine .inl ⟨trivial, ?_⟩
      have e55 : bA.tmps[55]?.getD undef = .bool true := (hb 55).trans (hdep 22 (by decide))
      have e60 : bA.tmps[60]?.getD undef = .bool true := (hb 60).trans (hdep 27 (by decide))
      refine phx_run (.bool true) ?_ (Below.refl _ _) rfl
      clear hb hdep hold
      go_simp
    · intro x w1 bA hT hdep hold hb
      refine .inl ⟨trivial, ?_⟩
      have e61 : bA.tmps[61]?.getD undef = .bool true := (hb 61).trans (hdep 28 (by decide))
      refine phx_run (.bool true) ?_ (Below.refl _ _) rfl
      clear hb hdep hold
      go_simp
    intro x w1 hT hall
    have x29e : x 29 = .bool true := hall 29 (by decide)
    clear hall
    refine end_look 4 29 (by kernel_rfl) (by kernel_rfl) (by kernel_rfl) x29e (fun T hT4 => ?_)
    clear x29e
    have HBF := Lib.hid ((R.out.below hT).bl)
    clear hT
    go_wp2_with fail
    go_ret
    exact ⟨by simp only [Array.getD_eq_getD_getElem?, hT4], HBF.out⟩
end Go.Proofs.YtbfggncmjdhapaaGreatDoor
