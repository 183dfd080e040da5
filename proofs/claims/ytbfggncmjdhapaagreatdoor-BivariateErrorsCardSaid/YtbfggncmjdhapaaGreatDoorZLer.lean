/- BivariateErrors: the law's walk. -/
import Derived.Test.YtbfggncmjdhapaaGreatDoorZEnd
import Derived.Test.YtbfggncmjdhapaaGreatDoorZBs1
import Derived.Test.YtbfggncmjdhapaaGreatDoorZBco
import Derived.Test.YtbfggncmjdhapaaGreatDoorZBte
import Derived.Test.YtbfggncmjdhapaaGreatDoorZBsh
namespace Go.Proofs.YtbfggncmjdhapaaGreatDoor
open Go.RowKit
set_option linter.unusedVariables false

def erP : List T2 := [((-1, 0), 1)]
theorem erP_can : Can2 erP := ⟨by unfold erP Srt2; simp, by unfold erP; simp⟩
theorem erP_lim : Lim2 erP := ⟨by unfold erP; simp, by unfold erP; simp, by unfold erP; simp⟩
theorem er_form1 (vp va vz : Value) (w : World) (hp : PolyB w vp (some erP)) (ha : PolyV w va (some [(0, 1), (1, 1)])) (hz : PolyV w vz (some [(1, 1)])) :
    Calls Tryz.prog 20 #[vp, va, vz] w fun e w' => e = .returned (.tuple #[.agg #[.bool false, .slice none 0 0], .int .i64 3]) ∧ Below w.heap.size w w' :=
  Set_form vp va vz erP _ _ w hp ha hz ⟨⟨by unfold Srt; simp, by simp⟩, ⟨by simp, by simp⟩⟩ (by decide +kernel) erP_lim (by decide) (by decide) (by decide)
theorem er_form2 (vp va vz : Value) (w : World) (hp : PolyB w vp (some erP)) (ha : PolyV w va (some [(0, 2)])) (hz : PolyV w vz (some [(1, 1)])) :
    Calls Tryz.prog 20 #[vp, va, vz] w fun e w' => e = .returned (.tuple #[.agg #[.bool false, .slice none 0 0], .int .i64 3]) ∧ Below w.heap.size w w' :=
  Set_form vp va vz erP _ _ w hp ha hz ⟨⟨by unfold Srt; simp, by simp⟩, ⟨by simp, by simp⟩⟩ (by decide +kernel) erP_lim (by decide) (by decide) (by decide)
theorem er_sum (n : Int) : asum1 (setL (LAu n (-1)) (LAu 1 1) erP) ≤ 1125899906842624 := by
  have h : setL (LAu n (-1)) (LAu 1 1) erP = prs (prs [(0, 1)] [(n * -1, pwU (-1) (-1))]) [(1 * 0, pwU 1 0)] ++ [] := rfl
  rw [h, List.append_nil, show pwU (-1) (-1) = -1 from rfl, show pwU 1 0 = 1 from rfl]
  simp [prs, asum1]
theorem er_ok (n : Int) (vp va vz : Value) (w : World) (hn : -128 ≤ n ∧ n ≤ 127) (hp : PolyB w vp (some erP)) (ha : PolyV w va (some [(n, -1)])) (hz : PolyV w vz (some [(1, 1)])) :
    Calls Tryz.prog 20 #[vp, va, vz] w (SetR (setL (LAu n (-1)) (LAu 1 1) erP) w) :=
  Set_one vp va vz erP n (-1) 1 1 w hp ha hz (.inr rfl) (.inl rfl) (by omega) (by omega) erP_lim erP_can (by decide) (fun t ht => by unfold erP at ht; simp at ht; subst ht; simp) (fun t ht => by unfold erP at ht; simp at ht; subst ht; simp only; omega) (fun t ht => by unfold erP at ht; simp at ht; subst ht; simp) (er_sum n)
theorem gth_big {F : K2 → Int} {r : PolB} (h : GthP F r) (e : K2) (hF : 1125899906842624 < F e) : r = none := by
  rcases h with ⟨l, h1, h2, h3, h4⟩ | ⟨h, _⟩
  · exfalso
    have h5 := h4 e
    by_cases hm : ∃ t ∈ l, t.1 = e
    · obtain ⟨t, ht, hte⟩ := hm
      have h6 := cg2_mem h2.srt ht
      rw [hte, h5] at h6
      have := h3.co t ht
      omega
    · rw [cg2_out (fun t ht q => hm ⟨t, ht, q⟩)] at h5
      omega
  · exact h
theorem PolyB.fsome {w : World} {v : Value} {l : List T2} (h : PolyB w v (some l)) : ∃ A n c, v = .agg #[.bool false, .slice A n c] := by
  obtain ⟨A, c, hv, _⟩ := h
  exact ⟨A, _, c, hv⟩
theorem PolyB.fnone {w : World} {v : Value} (h : PolyB w v none) : ∃ A n c, v = .agg #[.bool true, .slice A n c] := by
  obtain ⟨A, c, hv, _⟩ := h
  exact ⟨A, _, c, hv⟩
/-- the law's boxes -/
structure Er1 (w W : World) (B3 B4 : Nat) (A3 A4 : Option Addr) (n3 c3 n4 c4 : Nat) : Prop where
  q3 : Arr W B3 27 [.bool false, .slice A3 n3 c3]
  q4 : Arr W B4 38 [.bool false, .slice A4 n4 c4]
  p3 : PolyB W (.agg #[.bool false, .slice A3 n3 c3]) (some erP)
  p4 : PolyV W (.agg #[.bool false, .slice A4 n4 c4]) (some [(0, 1), (1, 1)])
  bl : Below w.heap.size w W
theorem Er1.below {w W W' : World} {B3 B4 : Nat} {A3 A4 : Option Addr} {n3 c3 n4 c4 : Nat} (h : Er1 w W B3 B4 A3 A4 n3 c3 n4 c4) (hb : Below W.heap.size W W') : Er1 w W' B3 B4 A3 A4 n3 c3 n4 c4 :=
  ⟨h.q3.below hb h.q3.lt, h.q4.below hb h.q4.lt, h.p3.below hb, h.p4.below hb, h.bl.trans (hb.mono h.bl.size)⟩
structure Er2 (w W : World) (B11 B12 : Nat) (A11 A12 : Option Addr) (n11 c11 n12 c12 : Nat) : Prop where
  q11 : Arr W B11 27 [.bool true, .slice A11 n11 c11]
  q12 : Arr W B12 27 [.bool true, .slice A12 n12 c12]
  p11 : PolyB W (.agg #[.bool true, .slice A11 n11 c11]) none
  p12 : PolyB W (.agg #[.bool true, .slice A12 n12 c12]) none
  bl : Below w.heap.size w W
theorem Er2.below {w W W' : World} {B11 B12 : Nat} {A11 A12 : Option Addr} {n11 c11 n12 c12 : Nat} (h : Er2 w W B11 B12 A11 A12 n11 c11 n12 c12) (hb : Below W.heap.size W W') : Er2 w W' B11 B12 A11 A12 n11 c11 n12 c12 :=
  ⟨h.q11.below hb h.q11.lt, h.q12.below hb h.q12.lt, h.p11.below hb, h.p12.below hb, h.bl.trans (hb.mono h.bl.size)⟩
set_option maxHeartbeats 8000000 in
set_option maxRecDepth 100000 in
theorem errors_law (n : Int) (w : World) (hn : -128 ≤ n ∧ n ≤ 127) (ht : Tb w) :
    Calls Tryz.prog 7 #[.int .i8 n] w fun e w' => e = .returned (.bool true) ∧ Below w.heap.size w w' := by
  have HA := Lib.hid (awake13 w ht)
  have HN := Lib.hid hn
  have HTB := Lib.hid ht
  have HCN := Lib.hid (show IntKind.i64.wrap n = n from IntWalk.i64_in _ (by omega))
  have HTN := Lib.hid (fun W => Term_any (-1) n W (by decide) (by decide) (by decide) (by omega) (by omega))
  clear ht hn
  go_enter Tryz.func7, Tryz.ntmps7
  go_wp2_with fail
  refine HA.out.mono ?_
  rintro e w1 ⟨rfl, hb1⟩
  have B1 := Lib.hid hb1
  clear hb1 HA
  have HT1 := Lib.hid (bTerm_any 1 (-1) 0 w1 (by decide) (by decide) (by decide))
  go_wp2_with fail
  refine HT1.out.mono ?_
  rintro e w2 ⟨v1, rfl, hp1, hb2⟩
  have hp1' : PolyB w2 v1 (some erP) := hp1
  obtain ⟨A3, n3, c3, rfl⟩ := hp1'.fsome
  have P1 := Lib.hid hp1'
  have B2 := Lib.hid (B1.out.trans (hb2.mono B1.out.size))
  clear hp1 hp1' hb2 HT1 B1
  have hW : ∀ W, W = w2.alloc (.cells #[.bool false, .slice A3 n3 c3] 27) → Arr W w2.heap.size 27 [.bool false, .slice A3 n3 c3] ∧ Below w2.heap.size w2 W := by
    intro W hW
    subst hW
    exact ⟨Arr.new _ _ [_, _], (Below.refl _ _).alloc (Nat.le_refl _) _⟩
  have HW := Lib.hid hW
  clear hW
  go_upto_region 4 with fail
  have hW := HW.out
  clear HW
  generalize w2.alloc (.cells #[.bool false, .slice A3 n3 c3] 27) = w4 at hW ⊢
  obtain ⟨q3, hb4⟩ := hW w4 rfl
  obtain ⟨B3, hB3⟩ : ∃ b, b = w2.heap.size := ⟨_, rfl⟩
  rw [← hB3] at q3 ⊢
  have Q3 := Lib.hid q3
  have P3 := Lib.hid (P1.out.below hb4)
  have B4' := Lib.hid (B2.out.trans (hb4.mono B2.out.size))
  clear hW q3 hb4 hB3 P1 B2
  have HO := Lib.hid (Of_any 0 (.slice (some ⟨w4.heap.size, 0, none⟩) 2 2) [1, 1] (w4.alloc (.cells #[.int .i64 1, .int .i64 1] 3)) (Ints.of_arr (xs := [1, 1]) (Arr.new w4 3 [.int .i64 1, .int .i64 1])) (by decide) (by decide))
  go_wp2_with fail
  refine HO.out.mono ?_
  rintro e w5 ⟨v4, rfl, hp4, hb5⟩
  have hp4' : PolyV w5 v4 (some [(0, 1), (1, 1)]) := by
    have h2 : ofP 0 [1, 1] = some [(0, 1), (1, 1)] := by decide +kernel
    rw [← h2]; exact hp4
  have hb5' : Below w4.heap.size w4 w5 := ((Below.refl _ _).alloc (Nat.le_refl _) _).trans (hb5.mono (by simp))
  obtain ⟨A4, n4, c4, rfl⟩ : ∃ A n c, v4 = .agg #[.bool false, .slice A n c] := by
    obtain ⟨A, c, hv, _⟩ := hp4'
    exact ⟨A, _, c, hv⟩
  have P4 := Lib.hid hp4'
  have B5 := Lib.hid hb5'
  clear hp4 hp4' hb5 hb5' HO
  have hW : ∀ W, W = w5.alloc (.cells #[.bool false, .slice A4 n4 c4] 38) → ∃ B4, B4 = w5.heap.size ∧ Er1 w W B3 B4 A3 A4 n3 c3 n4 c4 := by
    intro W hW
    subst hW
    have k := (Below.refl w5.heap.size w5).alloc (Nat.le_refl _) (.cells #[.bool false, .slice A4 n4 c4] 38)
    have g := B5.out.trans (k.mono B5.out.size)
    exact ⟨_, rfl, Q3.out.below g Q3.out.lt, Arr.new _ _ [_, _], P3.out.below g, P4.out.below k, B4'.out.trans (g.mono B4'.out.size)⟩
  have HW := Lib.hid hW
  clear hW
  go_upto_region 5 with fail
  have hW := HW.out
  clear HW Q3 P3 P4 B4' B5
  generalize w5.alloc (.cells #[.bool false, .slice A4 n4 c4] 38) = w3 at hW ⊢
  obtain ⟨B4, hB4, hr⟩ := hW w3 rfl
  rw [← hB4]
  have R := Lib.hid hr
  clear hW hr hB4
  refine wp_region_phil 8 (fun i => decide (i = 6) || decide (i = 9)) (by kernel_rfl) (by kernel_rfl) (by kernel_rfl) (by kernel_rfl) (by kernel_rfl) rfl (by simp) (by kernel_rfl) (fun i => ([some (.agg #[.bool false, .slice A3 n3 c3]), some (.agg #[.bool false, .slice A4 n4 c4]), none, some (.tuple #[.agg #[.bool false, .slice none 0 0], .int .i64 3]), some (.tuple #[.agg #[.bool false, .slice none 0 0], .int .i64 3]), some (.agg #[.bool false, .slice none 0 0]), some (.int .i64 3), none, none, some (.int .i64 3)] : List (Option Value)).getD i none) (phiT (fun i => ([some (.agg #[.bool false, .slice A3 n3 c3]), some (.agg #[.bool false, .slice A4 n4 c4]), none, some (.tuple #[.agg #[.bool false, .slice none 0 0], .int .i64 3]), some (.tuple #[.agg #[.bool false, .slice none 0 0], .int .i64 3]), some (.agg #[.bool false, .slice none 0 0]), some (.int .i64 3), none, none, some (.int .i64 3)] : List (Option Value)).getD i none) (fun i v w => (if i = 2 then (fun v w => PolyV w v (some [(1, 1)])) v w else (if i = 7 then (fun v w => ∃ g, v = .pointer (some ⟨g, 0, none⟩) ∧ w3.heap.size ≤ g ∧ Arr w g 38 [.bool false, .slice none 0 0]) v w else True)))) (fun i v w w' h hb => ?_) (fun i u v w h he => ?_) (fun x W => ∃ (g : Nat), x 7 = .pointer (some ⟨g, 0, none⟩) ∧ w3.heap.size ≤ g ∧ Arr W g 38 [.bool false, .slice none 0 0] ∧ Below w3.heap.size w3 W) (fun x w i v hl h => ?_) ⟨?_, ?_, ?_, ?_, ?_, ?_, ?_, ?_, ?_, ?_, trivial⟩ ?_
  · unfold phiT at h ⊢
    split
    · next u hu => rw [hu] at h; exact h
    · next hu =>
      rw [hu] at h
      simp only at h ⊢
      by_cases q2 : i = 2
      · rw [if_pos q2] at h ⊢; exact PolyV.below h hb
      · rw [if_neg q2] at h ⊢
        by_cases q7 : i = 7
        · rw [if_pos q7] at h ⊢; exact (by obtain ⟨g, h1, h2, h3⟩ := h; exact ⟨g, h1, h2, h3.below hb h3.lt⟩)
        · rw [if_neg q7] at h ⊢
          trivial
  · exact phiT_val h he
  · simp only [Bool.or_eq_true, decide_eq_true_eq, Bool.false_eq_true] at hl
    rcases hl with rfl | rfl
    · exact by simpa [upd] using h
    · exact by simpa [upd] using h
  · intro x w1 bA hold hb
    refine ⟨fun _ _ hbel hdep => ?_, fun h => absurd h (by decide), fun h => absurd h (by decide)⟩
    have e3 : bA.tmps[3]?.getD undef = .pointer (some ⟨B3, 0, none⟩) := hb 3
    have cc0 := ((R.out.below hbel).q3.cell 0)
    have cc1 := ((R.out.below hbel).q3.cell 1)
    refine phi_run (.agg #[.bool false, .slice A3 n3 c3]) ?_ rfl
    clear hb hdep hold
    go_simp
  · intro x w1 bA hold hb
    refine ⟨fun _ _ hbel hdep => ?_, fun h => absurd h (by decide), fun h => absurd h (by decide)⟩
    have e4 : bA.tmps[4]?.getD undef = .pointer (some ⟨B4, 0, none⟩) := hb 4
    have cc0 := ((R.out.below hbel).q4.cell 0)
    have cc1 := ((R.out.below hbel).q4.cell 1)
    refine phi_run (.agg #[.bool false, .slice A4 n4 c4]) ?_ rfl
    clear hb hdep hold
    go_simp
  · intro x w1 bA hold hb
    refine ⟨fun _ _ hbel hdep => ?_, fun h => absurd h (by decide), fun h => absurd h (by decide)⟩
    refine phi_call ?_ ((Term_any 1 1 w1 (by decide) (by decide) (by decide) (by decide) (by decide)).mono fun e w' h => (by obtain ⟨v, he, hv, hb'⟩ := h; exact ⟨v, he, hb', hv⟩))
    clear hb hdep hold
    go_simp
  · intro x w1 bA hold hb
    refine ⟨fun _ _ hbel hdep => ?_, fun h => absurd h (by decide), fun h => absurd h (by decide)⟩
    have e22 : bA.tmps[22]?.getD undef = .agg #[.bool false, .slice A3 n3 c3] := (hb 22).trans (hdep 0 (by decide))
    have e23 : bA.tmps[23]?.getD undef = .agg #[.bool false, .slice A4 n4 c4] := (hb 23).trans (hdep 1 (by decide))
    have p24 := hdep 2 (by decide)
    have e24 : bA.tmps[24]?.getD undef = x 2 := hb 24
    generalize x 2 = x24 at p24 e24
    have P24 := Lib.hid (show (fun v w => PolyV w v (some [(1, 1)])) x24 w1 from p24)
    clear p24
    refine phi_call ?_ ((er_form1 _ _ x24 w1 (R.out.below hbel).p3 (R.out.below hbel).p4 P24.out).mono fun e w' h => ⟨_, h.1, h.2, rfl⟩)
    clear hb hdep hold
    go_simp
  · intro x w1 bA hold hb
    refine ⟨fun _ _ hbel hdep => ?_, fun h => absurd h (by decide), fun h => absurd h (by decide)⟩
    have e25 : bA.tmps[25]?.getD undef = .tuple #[.agg #[.bool false, .slice none 0 0], .int .i64 3] := (hb 25).trans (hdep 3 (by decide))
    refine phi_run (.tuple #[.agg #[.bool false, .slice none 0 0], .int .i64 3]) ?_ rfl
    clear hb hdep hold
    go_simp
  · intro x w1 bA hold hb
    refine ⟨fun _ _ hbel hdep => ?_, fun h => absurd h (by decide), fun h => absurd h (by decide)⟩
    have e21 : bA.tmps[21]?.getD undef = .tuple #[.agg #[.bool false, .slice none 0 0], .int .i64 3] := (hb 21).trans (hdep 4 (by decide))
    refine phi_run (.agg #[.bool false, .slice none 0 0]) ?_ rfl
    clear hb hdep hold
    go_simp
  · intro x w1 bA hold hb
    refine ⟨fun h => absurd h (by decide), fun h => absurd h (by decide), fun _ hdep => ⟨.int .i64 3, rfl, ?_, rfl⟩⟩
    have e21 : bA.tmps[21]?.getD undef = .tuple #[.agg #[.bool false, .slice none 0 0], .int .i64 3] := (hb 21).trans (hdep 4 (by decide) _ rfl)
    clear hb hdep hold
    go_simp
  · intro x w1 bA hold hb
    refine ⟨fun _ _ hbel hdep => ?_, fun h => absurd h (by decide), fun h => absurd h (by decide)⟩
    refine phi_make (.pointer (some ⟨w1.heap.size, 0, none⟩)) (w1.alloc (.cells #[.bool false, .slice none 0 0] 38)) ?_ ((Below.refl _ _).alloc (Nat.le_refl _) _) (⟨w1.heap.size, rfl, hbel.size, Arr.new w1 38 [.bool false, .slice none 0 0]⟩)
    clear hb hdep hold
    go_simp
  · intro x w1 bA hold hb
    refine ⟨fun _ h => absurd rfl h, fun _ hbel hdep => ?_, fun h => absurd h (by decide)⟩
    have p5 := hdep 7 (by decide)
    have e5 : bA.tmps[5]?.getD undef = x 7 := hb 5
    have P5 := Lib.hid (show (fun v w => ∃ g, v = .pointer (some ⟨g, 0, none⟩) ∧ w3.heap.size ≤ g ∧ Arr w g 38 [.bool false, .slice none 0 0]) (x 7) w1 from p5)
    clear p5
    have e26 : bA.tmps[26]?.getD undef = .agg #[.bool false, .slice none 0 0] := (hb 26).trans (hdep 5 (by decide))
    clear hb hdep hold
    obtain ⟨g, eb, hg, ag⟩ := P5.out
    rw [eb] at e5
    have c0 := ag.cell 0
    have c1 := ag.cell 1
    have f0 := ag.frozen 0
    have f1 := ag.frozen 1
    have AG := Lib.hid ag
    have HXg := Lib.hid eb
    have HBL := Lib.hid hbel
    clear ag eb P5 hbel
    refine phl_st (R := fun x W => ∃ (g : Nat), x 7 = .pointer (some ⟨g, 0, none⟩) ∧ w3.heap.size ≤ g ∧ Arr W g 38 [.bool false, .slice none 0 0] ∧ Below w3.heap.size w3 W) ((w1.setCell ⟨g, 0, none⟩ (.bool false)).setCell ⟨g, 1, none⟩ (.slice none 0 0)) ?_ rfl (fun v => ⟨g, (by simpa [upd] using HXg.out), hg, (AG.out.set 0 _).set 1 _, (HBL.out.setCell (p := ⟨g, 0, none⟩) hg _).setCell (p := ⟨g, 1, none⟩) hg _⟩) rfl
    go_simp
  · intro x w1 bA hold hb
    refine ⟨fun h => absurd h (by decide), fun h => absurd h (by decide), fun _ hdep => ⟨.int .i64 3, rfl, ?_, rfl⟩⟩
    have e27 : bA.tmps[27]?.getD undef = .int .i64 3 := (hb 27).trans (hdep 6 (by decide) _ rfl)
    clear hb hdep hold
    go_simp
  intro x w1 hR hall
  have x0e : x 0 = .agg #[.bool false, .slice A3 n3 c3] := hall 0 _ (by simp) rfl
  have x1e : x 1 = .agg #[.bool false, .slice A4 n4 c4] := hall 1 _ (by simp) rfl
  have x3e : x 3 = .tuple #[.agg #[.bool false, .slice none 0 0], .int .i64 3] := hall 3 _ (by simp) rfl
  have x4e : x 4 = .tuple #[.agg #[.bool false, .slice none 0 0], .int .i64 3] := hall 4 _ (by simp) rfl
  have x5e : x 5 = .agg #[.bool false, .slice none 0 0] := hall 5 _ (by simp) rfl
  have x6e : x 6 = .int .i64 3 := hall 6 _ (by simp) rfl
  have x9e : x 9 = .int .i64 3 := hall 9 _ (by simp) rfl
  simp only [putAll, dstOf, Act.put, List.map_cons, List.map_nil, List.setIfInBounds_toArray, List.set_cons_succ, List.set_cons_zero, Nat.reduceAdd, x0e, x1e, x3e, x4e, x5e, x6e, x9e]
  clear x0e x1e x3e x4e x5e x6e x9e hall
  obtain ⟨gq, e8, hg8, q8, hb8⟩ := hR
  rw [e8]
  have R' := Lib.hid (R.out.below hb8)
  clear R q8 hb8 hg8 e8
  have R := Lib.hid R'.out
  clear R'
  generalize w1 = w9 at *
  clear w3
  generalize w9 = w3 at *
  go_upto_region 6 with fail
  refine wp_region_phil 8 (fun i => decide (i = 6) || decide (i = 9)) (by kernel_rfl) (by kernel_rfl) (by kernel_rfl) (by kernel_rfl) (by kernel_rfl) rfl (by simp) (by kernel_rfl) (fun i => ([some (.agg #[.bool false, .slice A3 n3 c3]), none, none, some (.tuple #[.agg #[.bool false, .slice none 0 0], .int .i64 3]), some (.tuple #[.agg #[.bool false, .slice none 0 0], .int .i64 3]), some (.agg #[.bool false, .slice none 0 0]), some (.int .i64 3), none, none, some (.int .i64 3)] : List (Option Value)).getD i none) (phiT (fun i => ([some (.agg #[.bool false, .slice A3 n3 c3]), none, none, some (.tuple #[.agg #[.bool false, .slice none 0 0], .int .i64 3]), some (.tuple #[.agg #[.bool false, .slice none 0 0], .int .i64 3]), some (.agg #[.bool false, .slice none 0 0]), some (.int .i64 3), none, none, some (.int .i64 3)] : List (Option Value)).getD i none) (fun i v w => (if i = 1 then (fun v w => PolyV w v (some [(0, 2)])) v w else (if i = 2 then (fun v w => PolyV w v (some [(1, 1)])) v w else (if i = 7 then (fun v w => ∃ g, v = .pointer (some ⟨g, 0, none⟩) ∧ w3.heap.size ≤ g ∧ Arr w g 38 [.bool false, .slice none 0 0]) v w else True))))) (fun i v w w' h hb => ?_) (fun i u v w h he => ?_) (fun x W => ∃ (g : Nat), x 7 = .pointer (some ⟨g, 0, none⟩) ∧ w3.heap.size ≤ g ∧ Arr W g 38 [.bool false, .slice none 0 0] ∧ Below w3.heap.size w3 W) (fun x w i v hl h => ?_) ⟨?_, ?_, ?_, ?_, ?_, ?_, ?_, ?_, ?_, ?_, trivial⟩ ?_
  · unfold phiT at h ⊢
    split
    · next u hu => rw [hu] at h; exact h
    · next hu =>
      rw [hu] at h
      simp only at h ⊢
      by_cases q1 : i = 1
      · rw [if_pos q1] at h ⊢; exact PolyV.below h hb
      · rw [if_neg q1] at h ⊢
        by_cases q2 : i = 2
        · rw [if_pos q2] at h ⊢; exact PolyV.below h hb
        · rw [if_neg q2] at h ⊢
          by_cases q7 : i = 7
          · rw [if_pos q7] at h ⊢; exact (by obtain ⟨g, h1, h2, h3⟩ := h; exact ⟨g, h1, h2, h3.below hb h3.lt⟩)
          · rw [if_neg q7] at h ⊢
            trivial
  · exact phiT_val h he
  · simp only [Bool.or_eq_true, decide_eq_true_eq, Bool.false_eq_true] at hl
    rcases hl with rfl | rfl
    · exact by simpa [upd] using h
    · exact by simpa [upd] using h
  · intro x w1 bA hold hb
    refine ⟨fun _ _ hbel hdep => ?_, fun h => absurd h (by decide), fun h => absurd h (by decide)⟩
    have e3 : bA.tmps[3]?.getD undef = .pointer (some ⟨B3, 0, none⟩) := hb 3
    have cc0 := ((R.out.below hbel).q3.cell 0)
    have cc1 := ((R.out.below hbel).q3.cell 1)
    refine phi_run (.agg #[.bool false, .slice A3 n3 c3]) ?_ rfl
    clear hb hdep hold
    go_simp
  · intro x w1 bA hold hb
    refine ⟨fun _ _ hbel hdep => ?_, fun h => absurd h (by decide), fun h => absurd h (by decide)⟩
    refine phi_call ?_ ((Term_any 2 0 w1 (by decide) (by decide) (by decide) (by decide) (by decide)).mono fun e w' h => (by obtain ⟨v, he, hv, hb'⟩ := h; exact ⟨v, he, hb', hv⟩))
    clear hb hdep hold
    go_simp
  · intro x w1 bA hold hb
    refine ⟨fun _ _ hbel hdep => ?_, fun h => absurd h (by decide), fun h => absurd h (by decide)⟩
    refine phi_call ?_ ((Term_any 1 1 w1 (by decide) (by decide) (by decide) (by decide) (by decide)).mono fun e w' h => (by obtain ⟨v, he, hv, hb'⟩ := h; exact ⟨v, he, hb', hv⟩))
    clear hb hdep hold
    go_simp
  · intro x w1 bA hold hb
    refine ⟨fun _ _ hbel hdep => ?_, fun h => absurd h (by decide), fun h => absurd h (by decide)⟩
    have e29 : bA.tmps[29]?.getD undef = .agg #[.bool false, .slice A3 n3 c3] := (hb 29).trans (hdep 0 (by decide))
    have p30 := hdep 1 (by decide)
    have e30 : bA.tmps[30]?.getD undef = x 1 := hb 30
    generalize x 1 = x30 at p30 e30
    have P30 := Lib.hid (show (fun v w => PolyV w v (some [(0, 2)])) x30 w1 from p30)
    clear p30
    have p31 := hdep 2 (by decide)
    have e31 : bA.tmps[31]?.getD undef = x 2 := hb 31
    generalize x 2 = x31 at p31 e31
    have P31 := Lib.hid (show (fun v w => PolyV w v (some [(1, 1)])) x31 w1 from p31)
    clear p31
    refine phi_call ?_ ((er_form2 _ x30 x31 w1 (R.out.below hbel).p3 P30.out P31.out).mono fun e w' h => ⟨_, h.1, h.2, rfl⟩)
    clear hb hdep hold
    go_simp
  · intro x w1 bA hold hb
    refine ⟨fun _ _ hbel hdep => ?_, fun h => absurd h (by decide), fun h => absurd h (by decide)⟩
    have e32 : bA.tmps[32]?.getD undef = .tuple #[.agg #[.bool false, .slice none 0 0], .int .i64 3] := (hb 32).trans (hdep 3 (by decide))
    refine phi_run (.tuple #[.agg #[.bool false, .slice none 0 0], .int .i64 3]) ?_ rfl
    clear hb hdep hold
    go_simp
  · intro x w1 bA hold hb
    refine ⟨fun _ _ hbel hdep => ?_, fun h => absurd h (by decide), fun h => absurd h (by decide)⟩
    have e28 : bA.tmps[28]?.getD undef = .tuple #[.agg #[.bool false, .slice none 0 0], .int .i64 3] := (hb 28).trans (hdep 4 (by decide))
    refine phi_run (.agg #[.bool false, .slice none 0 0]) ?_ rfl
    clear hb hdep hold
    go_simp
  · intro x w1 bA hold hb
    refine ⟨fun h => absurd h (by decide), fun h => absurd h (by decide), fun _ hdep => ⟨.int .i64 3, rfl, ?_, rfl⟩⟩
    have e28 : bA.tmps[28]?.getD undef = .tuple #[.agg #[.bool false, .slice none 0 0], .int .i64 3] := (hb 28).trans (hdep 4 (by decide) _ rfl)
    clear hb hdep hold
    go_simp
  · intro x w1 bA hold hb
    refine ⟨fun _ _ hbel hdep => ?_, fun h => absurd h (by decide), fun h => absurd h (by decide)⟩
    refine phi_make (.pointer (some ⟨w1.heap.size, 0, none⟩)) (w1.alloc (.cells #[.bool false, .slice none 0 0] 38)) ?_ ((Below.refl _ _).alloc (Nat.le_refl _) _) (⟨w1.heap.size, rfl, hbel.size, Arr.new w1 38 [.bool false, .slice none 0 0]⟩)
    clear hb hdep hold
    go_simp
  · intro x w1 bA hold hb
    refine ⟨fun _ h => absurd rfl h, fun _ hbel hdep => ?_, fun h => absurd h (by decide)⟩
    have p7 := hdep 7 (by decide)
    have e7 : bA.tmps[7]?.getD undef = x 7 := hb 7
    have P7 := Lib.hid (show (fun v w => ∃ g, v = .pointer (some ⟨g, 0, none⟩) ∧ w3.heap.size ≤ g ∧ Arr w g 38 [.bool false, .slice none 0 0]) (x 7) w1 from p7)
    clear p7
    have e33 : bA.tmps[33]?.getD undef = .agg #[.bool false, .slice none 0 0] := (hb 33).trans (hdep 5 (by decide))
    clear hb hdep hold
    obtain ⟨g, eb, hg, ag⟩ := P7.out
    rw [eb] at e7
    have c0 := ag.cell 0
    have c1 := ag.cell 1
    have f0 := ag.frozen 0
    have f1 := ag.frozen 1
    have AG := Lib.hid ag
    have HXg := Lib.hid eb
    have HBL := Lib.hid hbel
    clear ag eb P7 hbel
    refine phl_st (R := fun x W => ∃ (g : Nat), x 7 = .pointer (some ⟨g, 0, none⟩) ∧ w3.heap.size ≤ g ∧ Arr W g 38 [.bool false, .slice none 0 0] ∧ Below w3.heap.size w3 W) ((w1.setCell ⟨g, 0, none⟩ (.bool false)).setCell ⟨g, 1, none⟩ (.slice none 0 0)) ?_ rfl (fun v => ⟨g, (by simpa [upd] using HXg.out), hg, (AG.out.set 0 _).set 1 _, (HBL.out.setCell (p := ⟨g, 0, none⟩) hg _).setCell (p := ⟨g, 1, none⟩) hg _⟩) rfl
    go_simp
  · intro x w1 bA hold hb
    refine ⟨fun h => absurd h (by decide), fun h => absurd h (by decide), fun _ hdep => ⟨.int .i64 3, rfl, ?_, rfl⟩⟩
    have e34 : bA.tmps[34]?.getD undef = .int .i64 3 := (hb 34).trans (hdep 6 (by decide) _ rfl)
    clear hb hdep hold
    go_simp
  intro x w1 hR hall
  have x0e : x 0 = .agg #[.bool false, .slice A3 n3 c3] := hall 0 _ (by simp) rfl
  have x3e : x 3 = .tuple #[.agg #[.bool false, .slice none 0 0], .int .i64 3] := hall 3 _ (by simp) rfl
  have x4e : x 4 = .tuple #[.agg #[.bool false, .slice none 0 0], .int .i64 3] := hall 4 _ (by simp) rfl
  have x5e : x 5 = .agg #[.bool false, .slice none 0 0] := hall 5 _ (by simp) rfl
  have x6e : x 6 = .int .i64 3 := hall 6 _ (by simp) rfl
  have x9e : x 9 = .int .i64 3 := hall 9 _ (by simp) rfl
  simp only [putAll, dstOf, Act.put, List.map_cons, List.map_nil, List.setIfInBounds_toArray, List.set_cons_succ, List.set_cons_zero, Nat.reduceAdd, x0e, x3e, x4e, x5e, x6e, x9e]
  clear x0e x3e x4e x5e x6e x9e hall
  obtain ⟨gq, e8, hg8, q8, hb8⟩ := hR
  rw [e8]
  have R' := Lib.hid (R.out.below hb8)
  clear R q8 hb8 hg8 e8
  have R := Lib.hid R'.out
  clear R'
  generalize w1 = w9 at *
  clear w3
  generalize w9 = w3 at *
  go_upto_region 7 with fail
  refine wp_region_phim 10 (fun i => decide (i = 8) || decide (i = 11)) (by kernel_rfl) (by kernel_rfl) (by kernel_rfl) (by kernel_rfl) (by kernel_rfl) rfl (by simp) (by kernel_rfl) (fun i => ([some (.agg #[.bool false, .slice A3 n3 c3]), some (.int .i8 n), some (.int .i64 n), none, none, none, none, none, some (.int .i64 0), none, none, some (.int .i64 0)] : List (Option Value)).getD i none) (phiT (fun i => ([some (.agg #[.bool false, .slice A3 n3 c3]), some (.int .i8 n), some (.int .i64 n), none, none, none, none, none, some (.int .i64 0), none, none, some (.int .i64 0)] : List (Option Value)).getD i none) (fun i v w => (if i = 3 then (fun v w => PolyV w v (some [(n, -1)])) v w else (if i = 4 then (fun v w => PolyV w v (some [(1, 1)])) v w else (if i = 5 then (fun v w => ∃ A k c, v = .tuple #[.agg #[.bool false, .slice A k c], .int .i64 0] ∧ QL w (.agg #[.bool false, .slice A k c]) (setL (LAu n (-1)) (LAu 1 1) erP)) v w else (if i = 6 then (fun v w => ∃ A k c, v = .tuple #[.agg #[.bool false, .slice A k c], .int .i64 0] ∧ QL w (.agg #[.bool false, .slice A k c]) (setL (LAu n (-1)) (LAu 1 1) erP)) v w else (if i = 7 then (fun v w => ∃ A k c, v = .agg #[.bool false, .slice A k c] ∧ QL w v (setL (LAu n (-1)) (LAu 1 1) erP)) v w else (if i = 9 then (fun v w => ∃ g, v = .pointer (some ⟨g, 0, none⟩) ∧ w3.heap.size ≤ g ∧ Arr w g 38 [.bool false, .slice none 0 0]) v w else True)))))))) (fun i v w w' h hb => ?_) (fun i u v w h he => ?_) (fun x W => ∃ (g : Nat) (A : Option Addr) (k c : Nat), x 9 = .pointer (some ⟨g, 0, none⟩) ∧ w3.heap.size ≤ g ∧ Below w3.heap.size w3 W ∧ ∃ u, x 6 = .tuple #[u, .int .i64 0]) (fun x w i v hl h => ?_) ⟨?_, ?_, ?_, ?_, ?_, ?_, ?_, ?_, ?_, ?_, ?_, ?_, trivial⟩ ?_
  · unfold phiT at h ⊢
    split
    · next u hu => rw [hu] at h; exact h
    · next hu =>
      rw [hu] at h
      simp only at h ⊢
      by_cases q3 : i = 3
      · rw [if_pos q3] at h ⊢; exact PolyV.below h hb
      · rw [if_neg q3] at h ⊢
        by_cases q4 : i = 4
        · rw [if_pos q4] at h ⊢; exact PolyV.below h hb
        · rw [if_neg q4] at h ⊢
          by_cases q5 : i = 5
          · rw [if_pos q5] at h ⊢; exact (by obtain ⟨A, k, c, h1, h2⟩ := h; exact ⟨A, k, c, h1, h2.below hb⟩)
          · rw [if_neg q5] at h ⊢
            by_cases q6 : i = 6
            · rw [if_pos q6] at h ⊢; exact (by obtain ⟨A, k, c, h1, h2⟩ := h; exact ⟨A, k, c, h1, h2.below hb⟩)
            · rw [if_neg q6] at h ⊢
              by_cases q7 : i = 7
              · rw [if_pos q7] at h ⊢; exact (by obtain ⟨A, k, c, h1, h2⟩ := h; exact ⟨A, k, c, h1, h2.below hb⟩)
              · rw [if_neg q7] at h ⊢
                by_cases q9 : i = 9
                · rw [if_pos q9] at h ⊢; exact (by obtain ⟨g, h1, h2, h3⟩ := h; exact ⟨g, h1, h2, h3.below hb h3.lt⟩)
                · rw [if_neg q9] at h ⊢
                  trivial
  · exact phiT_val h he
  · simp only [Bool.or_eq_true, decide_eq_true_eq, Bool.false_eq_true] at hl
    rcases hl with rfl | rfl
    · exact by simpa [upd] using h
    · exact by simpa [upd] using h
  · intro x w1 bA hold hb
    refine ⟨fun _ _ hbel hdep => ?_, fun h => absurd h (by decide), fun h => absurd h (by decide)⟩
    have e3 : bA.tmps[3]?.getD undef = .pointer (some ⟨B3, 0, none⟩) := hb 3
    have cc0 := ((R.out.below hbel).q3.cell 0)
    have cc1 := ((R.out.below hbel).q3.cell 1)
    refine phi_run (.agg #[.bool false, .slice A3 n3 c3]) ?_ rfl
    clear hb hdep hold
    go_simp
  · intro x w1 bA hold hb
    refine ⟨fun _ _ hbel hdep => ?_, fun h => absurd h (by decide), fun h => absurd h (by decide)⟩
    have e0 : bA.tmps[0]?.getD undef = .int .i8 n := hb 0
    refine phi_run (.int .i8 n) ?_ rfl
    clear hb hdep hold
    go_simp
  · intro x w1 bA hold hb
    refine ⟨fun _ _ hbel hdep => ?_, fun h => absurd h (by decide), fun h => absurd h (by decide)⟩
    have e37 : bA.tmps[37]?.getD undef = .int .i8 n := (hb 37).trans (hdep 1 (by decide))
    have cw := HCN.out
    refine phi_run (.int .i64 n) ?_ rfl
    clear hb hdep hold
    go_simp
  · intro x w1 bA hold hb
    refine ⟨fun _ _ hbel hdep => ?_, fun h => absurd h (by decide), fun h => absurd h (by decide)⟩
    have e38 : bA.tmps[38]?.getD undef = .int .i64 n := (hb 38).trans (hdep 2 (by decide))
    refine phi_call ?_ ((HTN.out w1).mono fun e w' h => (by obtain ⟨v, he, hv, hb'⟩ := h; exact ⟨v, he, hb', hv⟩))
    clear hb hdep hold
    go_simp
  · intro x w1 bA hold hb
    refine ⟨fun _ _ hbel hdep => ?_, fun h => absurd h (by decide), fun h => absurd h (by decide)⟩
    refine phi_call ?_ ((Term_any 1 1 w1 (by decide) (by decide) (by decide) (by decide) (by decide)).mono fun e w' h => (by obtain ⟨v, he, hv, hb'⟩ := h; exact ⟨v, he, hb', hv⟩))
    clear hb hdep hold
    go_simp
  · intro x w1 bA hold hb
    refine ⟨fun _ _ hbel hdep => ?_, fun h => absurd h (by decide), fun h => absurd h (by decide)⟩
    have e36 : bA.tmps[36]?.getD undef = .agg #[.bool false, .slice A3 n3 c3] := (hb 36).trans (hdep 0 (by decide))
    have p39 := hdep 3 (by decide)
    have e39 : bA.tmps[39]?.getD undef = x 3 := hb 39
    generalize x 3 = x39 at p39 e39
    have P39 := Lib.hid (show (fun v w => PolyV w v (some [(n, -1)])) x39 w1 from p39)
    clear p39
    have p40 := hdep 4 (by decide)
    have e40 : bA.tmps[40]?.getD undef = x 4 := hb 40
    generalize x 4 = x40 at p40 e40
    have P40 := Lib.hid (show (fun v w => PolyV w v (some [(1, 1)])) x40 w1 from p40)
    clear p40
    refine phi_call ?_ ((er_ok n _ x39 x40 w1 HN.out (R.out.below hbel).p3 P39.out P40.out).mono fun e w' h => (by obtain ⟨A, k, c, he, hq, hb'⟩ := h; exact ⟨_, he, hb', A, k, c, rfl, hq⟩))
    clear hb hdep hold
    go_simp
  · intro x w1 bA hold hb
    refine ⟨fun _ _ hbel hdep => ?_, fun h => absurd h (by decide), fun h => absurd h (by decide)⟩
    have p41 := hdep 5 (by decide)
    have e41 : bA.tmps[41]?.getD undef = x 5 := hb 41
    generalize x 5 = x41 at p41 e41
    have P41 := Lib.hid (show (fun v w => ∃ A k c, v = .tuple #[.agg #[.bool false, .slice A k c], .int .i64 0] ∧ QL w (.agg #[.bool false, .slice A k c]) (setL (LAu n (-1)) (LAu 1 1) erP)) x41 w1 from p41)
    clear p41
    refine phi_run (x41) ?_ (P41.out)
    clear hb hdep hold
    go_simp
  · intro x w1 bA hold hb
    refine ⟨fun _ _ hbel hdep => ?_, fun h => absurd h (by decide), fun h => absurd h (by decide)⟩
    have p35 := hdep 6 (by decide)
    have e35 : bA.tmps[35]?.getD undef = x 6 := hb 35
    generalize x 6 = x35 at p35 e35
    have P35 := Lib.hid (show (fun v w => ∃ A k c, v = .tuple #[.agg #[.bool false, .slice A k c], .int .i64 0] ∧ QL w (.agg #[.bool false, .slice A k c]) (setL (LAu n (-1)) (LAu 1 1) erP)) x35 w1 from p35)
    clear p35
    obtain ⟨A35, k35, c35, e35b, hq35⟩ := P35.out
    have HQ35 := Lib.hid hq35
    subst e35b
    refine phi_run (.agg #[.bool false, .slice A35 k35 c35]) ?_ (⟨A35, k35, c35, rfl, HQ35.out⟩)
    clear hb hdep hold
    go_simp
  · intro x w1 bA hold hb
    refine ⟨fun h => absurd h (by decide), fun h => absurd h (by decide), fun _ hdep hlr => ⟨.int .i64 0, rfl, ?_, rfl⟩⟩
    have h35 : ∃ u, x 6 = .tuple #[u, .int .i64 0] := hlr.elim (fun h => by obtain ⟨_, _, _, _, _, _, _, u, hu⟩ := h; exact ⟨u, hu⟩) (fun h => by obtain ⟨A, k, c, h1, _⟩ := h.2 6 (by decide); exact ⟨_, h1⟩)
    obtain ⟨u, hu⟩ := h35
    have e35 : bA.tmps[35]?.getD undef = .tuple #[u, .int .i64 0] := (hb 35).trans hu
    clear hb hdep hold hlr
    go_simp
  · intro x w1 bA hold hb
    refine ⟨fun _ _ hbel hdep => ?_, fun h => absurd h (by decide), fun h => absurd h (by decide)⟩
    refine phi_make (.pointer (some ⟨w1.heap.size, 0, none⟩)) (w1.alloc (.cells #[.bool false, .slice none 0 0] 38)) ?_ ((Below.refl _ _).alloc (Nat.le_refl _) _) (⟨w1.heap.size, rfl, hbel.size, Arr.new w1 38 [.bool false, .slice none 0 0]⟩)
    clear hb hdep hold
    go_simp
  · intro x w1 bA hold hb
    refine ⟨fun _ h => absurd rfl h, fun _ hbel hdep hall => ?_, fun h => absurd h (by decide)⟩
    have p9 := hdep 9 (by decide)
    have e9 : bA.tmps[9]?.getD undef = x 9 := hb 9
    have P9 := Lib.hid (show (fun v w => ∃ g, v = .pointer (some ⟨g, 0, none⟩) ∧ w3.heap.size ≤ g ∧ Arr w g 38 [.bool false, .slice none 0 0]) (x 9) w1 from p9)
    clear p9
    have p42 := hdep 7 (by decide)
    have e42 : bA.tmps[42]?.getD undef = x 7 := hb 42
    have P42 := Lib.hid (show (fun v w => ∃ A k c, v = .agg #[.bool false, .slice A k c] ∧ QL w v (setL (LAu n (-1)) (LAu 1 1) erP)) (x 7) w1 from p42)
    clear p42
    clear hb hdep hold
    have HX35 := Lib.hid (show ∃ u, x 6 = .tuple #[u, .int .i64 0] from by obtain ⟨A, k, c, h1, _⟩ := hall 6 (by decide) (by decide) (by decide); exact ⟨_, h1⟩)
    clear hall
    obtain ⟨g, e9b, hg, ag⟩ := P9.out
    obtain ⟨A42, n42, c42, e42b, hq42⟩ := P42.out
    rw [e9b] at e9
    rw [e42b] at e42
    have c0 := ag.cell 0
    have c1 := ag.cell 1
    have f0 := ag.frozen 0
    have f1 := ag.frozen 1
    have AG := Lib.hid ag
    have HX9 := Lib.hid e9b
    have HBL := Lib.hid hbel
    clear ag e9b e42b hq42 P9 P42 hbel
    refine phl_st (R := fun x W => ∃ (g : Nat) (A : Option Addr) (k c : Nat), x 9 = .pointer (some ⟨g, 0, none⟩) ∧ w3.heap.size ≤ g ∧ Below w3.heap.size w3 W ∧ ∃ u, x 6 = .tuple #[u, .int .i64 0]) ((w1.setCell ⟨g, 0, none⟩ (.bool false)).setCell ⟨g, 1, none⟩ (.slice A42 n42 c42)) ?_ rfl (fun v => ⟨g, A42, n42, c42, (by simpa [upd] using HX9.out), hg, (HBL.out.setCell (p := ⟨g, 0, none⟩) hg _).setCell (p := ⟨g, 1, none⟩) hg _, (by simpa [upd] using HX35.out)⟩) rfl
    go_simp
  · intro x w1 bA hold hb
    refine ⟨fun h => absurd h (by decide), fun h => absurd h (by decide), fun _ hdep hlr => ⟨.int .i64 0, rfl, ?_, rfl⟩⟩
    have e43 : bA.tmps[43]?.getD undef = .int .i64 0 := (hb 43).trans (hdep 8 (by decide) _ rfl)
    clear hb hdep hold
    go_simp
  intro x w1 hR hall
  have x0e : x 0 = .agg #[.bool false, .slice A3 n3 c3] := hall 0 _ (by simp) rfl
  have x1e : x 1 = .int .i8 n := hall 1 _ (by simp) rfl
  have x2e : x 2 = .int .i64 n := hall 2 _ (by simp) rfl
  have x8e : x 8 = .int .i64 0 := hall 8 _ (by simp) rfl
  have x11e : x 11 = .int .i64 0 := hall 11 _ (by simp) rfl
  simp only [putAll, dstOf, Act.put, List.map_cons, List.map_nil, List.setIfInBounds_toArray, List.set_cons_succ, List.set_cons_zero, Nat.reduceAdd, x0e, x1e, x2e, x8e, x11e]
  clear x0e x1e x2e x8e x11e hall
  obtain ⟨gq, Aq, kq, cq, e8, hg8, hb8, -⟩ := hR
  rw [e8]
  have B9 := Lib.hid ((R.out.below hb8).bl)
  clear R e8 hg8 hb8 HTN
  generalize w1 = w9 at *
  clear w3
  have HT1 := Lib.hid (bTerm_any 1125899906842624 0 0 w9 (by decide) (by decide) (by decide))
  go_wp2_with fail
  refine HT1.out.mono ?_
  rintro e w10 ⟨v44, rfl, hp44, hb10⟩
  have P44 := Lib.hid (show PolyB w10 v44 (some [((0, 0), 1125899906842624)]) from hp44)
  have B10 := Lib.hid (B9.out.trans (hb10.mono B9.out.size))
  clear hp44 hb10 HT1 B9
  have HT1 := Lib.hid (bTerm_any 1 0 0 w10 (by decide) (by decide) (by decide))
  go_wp2_with fail
  refine HT1.out.mono ?_
  rintro e w11 ⟨v45, rfl, hp45, hb11⟩
  have P45 := Lib.hid (show PolyB w11 v45 (some [((0, 0), 1)]) from hp45)
  have P44' := Lib.hid (P44.out.below hb11)
  have B11 := Lib.hid (B10.out.trans (hb11.mono B10.out.size))
  clear hp45 hb11 HT1 B10 P44
  have HT1 := Lib.hid (bAdd_any v44 v45 _ _ w11 P44'.out P45.out ⟨⟨by unfold Srt2; simp, by simp⟩, ⟨by simp, by simp, by simp⟩⟩ ⟨⟨by unfold Srt2; simp, by simp⟩, ⟨by simp, by simp, by simp⟩⟩ (by decide))
  go_wp2_with fail
  refine HT1.out.mono ?_
  rintro e w12 ⟨v46, r46, rfl, hp46, hc46, hb12⟩
  have hr46 : r46 = none := gth_big hc46 (0, 0) (by decide)
  subst hr46
  obtain ⟨A11, n11, c11, rfl⟩ := hp46.fnone
  have P46 := Lib.hid hp46
  have B12 := Lib.hid (B11.out.trans (hb12.mono B11.out.size))
  clear hp46 hc46 hb12 HT1 B11 P44' P45
  have hW : ∀ W, W = w12.alloc (.cells #[.bool true, .slice A11 n11 c11] 27) → Arr W w12.heap.size 27 [.bool true, .slice A11 n11 c11] ∧ Below w12.heap.size w12 W := by
    intro W hW
    subst hW
    exact ⟨Arr.new _ _ [_, _], (Below.refl _ _).alloc (Nat.le_refl _) _⟩
  have HW := Lib.hid hW
  clear hW
  go_upto_region 9 with fail
  have hW := HW.out
  clear HW
  generalize w12.alloc (.cells #[.bool true, .slice A11 n11 c11] 27) = w13 at hW ⊢
  obtain ⟨q11, hb13⟩ := hW w13 rfl
  obtain ⟨B11, hB11⟩ : ∃ b, b = w12.heap.size := ⟨_, rfl⟩
  rw [← hB11] at q11 ⊢
  have Q11 := Lib.hid q11
  have P11 := Lib.hid (P46.out.below hb13)
  have B13 := Lib.hid (B12.out.trans (hb13.mono B12.out.size))
  clear hW q11 hb13 hB11 P46 B12
  have HT1 := Lib.hid (bTerm_any 1 1048576 0 w13 (by decide) (by decide) (by decide))
  go_wp2_with fail
  refine HT1.out.mono ?_
  rintro e w14 ⟨v47, rfl, hp47, hb14⟩
  have P47 := Lib.hid (show PolyB w14 v47 (some [((1048576, 0), 1)]) from hp47)
  have Q11' := Lib.hid (Q11.out.below hb14 Q11.out.lt)
  have P11' := Lib.hid (P11.out.below hb14)
  have B14 := Lib.hid (B13.out.trans (hb14.mono B13.out.size))
  clear hp47 hb14 HT1 B13 Q11 P11
  have HT1 := Lib.hid (bShift_any v47 _ 1 0 w14 P47.out ⟨⟨by unfold Srt2; simp, by simp⟩, ⟨by simp, by simp, by simp⟩⟩ (by decide) (by decide) (by decide))
  go_wp2_with fail
  refine HT1.out.mono ?_
  rintro e w15 ⟨v48, rfl, hp48, hb15⟩
  have hp48' : PolyB w15 v48 none := by
    have h2 : shB 1 0 (some [((1048576, 0), 1)]) = none := by decide +kernel
    rw [← h2]; exact hp48
  obtain ⟨A12, n12, c12, rfl⟩ := hp48'.fnone
  have P48 := Lib.hid hp48'
  have Q11 := Lib.hid (Q11'.out.below hb15 Q11'.out.lt)
  have P11 := Lib.hid (P11'.out.below hb15)
  have B15 := Lib.hid (B14.out.trans (hb15.mono B14.out.size))
  clear hp48 hp48' hb15 HT1 B14 Q11' P11' P47
  have hW : ∀ W, W = w15.alloc (.cells #[.bool true, .slice A12 n12 c12] 27) → ∃ B12, B12 = w15.heap.size ∧ Er2 w W B11 B12 A11 A12 n11 c11 n12 c12 := by
    intro W hW
    subst hW
    have k := (Below.refl w15.heap.size w15).alloc (Nat.le_refl _) (.cells #[.bool true, .slice A12 n12 c12] 27)
    exact ⟨_, rfl, Q11.out.below k Q11.out.lt, Arr.new _ _ [_, _], P11.out.below k, P48.out.below k, B15.out.trans (k.mono B15.out.size)⟩
  have HW := Lib.hid hW
  clear hW
  go_upto_region 10 with fail
  have hW := HW.out
  clear HW Q11 P11 P48 B15
  generalize w15.alloc (.cells #[.bool true, .slice A12 n12 c12] 27) = w3 at hW ⊢
  obtain ⟨B12, hB12, hr⟩ := hW w3 rfl
  rw [← hB12]
  have R := Lib.hid hr
  clear hW hr hB12
  refine wp_region_phil 8 (fun i => decide (i = 6) || decide (i = 9)) (by kernel_rfl) (by kernel_rfl) (by kernel_rfl) (by kernel_rfl) (by kernel_rfl) rfl (by simp) (by kernel_rfl) (fun i => ([some (.agg #[.bool true, .slice A11 n11 c11]), none, none, some (.tuple #[.agg #[.bool false, .slice none 0 0], .int .i64 9]), some (.tuple #[.agg #[.bool false, .slice none 0 0], .int .i64 9]), some (.agg #[.bool false, .slice none 0 0]), some (.int .i64 9), none, none, some (.int .i64 9)] : List (Option Value)).getD i none) (phiT (fun i => ([some (.agg #[.bool true, .slice A11 n11 c11]), none, none, some (.tuple #[.agg #[.bool false, .slice none 0 0], .int .i64 9]), some (.tuple #[.agg #[.bool false, .slice none 0 0], .int .i64 9]), some (.agg #[.bool false, .slice none 0 0]), some (.int .i64 9), none, none, some (.int .i64 9)] : List (Option Value)).getD i none) (fun i v w => (if i = 1 then (fun v w => PolyV w v (some [(1, 1)])) v w else (if i = 2 then (fun v w => PolyV w v (some [(1, 1)])) v w else (if i = 7 then (fun v w => ∃ g, v = .pointer (some ⟨g, 0, none⟩) ∧ w3.heap.size ≤ g ∧ Arr w g 38 [.bool false, .slice none 0 0]) v w else True))))) (fun i v w w' h hb => ?_) (fun i u v w h he => ?_) (fun x W => ∃ (g : Nat), x 7 = .pointer (some ⟨g, 0, none⟩) ∧ w3.heap.size ≤ g ∧ Arr W g 38 [.bool false, .slice none 0 0] ∧ Below w3.heap.size w3 W) (fun x w i v hl h => ?_) ⟨?_, ?_, ?_, ?_, ?_, ?_, ?_, ?_, ?_, ?_, trivial⟩ ?_
  · unfold phiT at h ⊢
    split
    · next u hu => rw [hu] at h; exact h
    · next hu =>
      rw [hu] at h
      simp only at h ⊢
      by_cases q1 : i = 1
      · rw [if_pos q1] at h ⊢; exact PolyV.below h hb
      · rw [if_neg q1] at h ⊢
        by_cases q2 : i = 2
        · rw [if_pos q2] at h ⊢; exact PolyV.below h hb
        · rw [if_neg q2] at h ⊢
          by_cases q7 : i = 7
          · rw [if_pos q7] at h ⊢; exact (by obtain ⟨g, h1, h2, h3⟩ := h; exact ⟨g, h1, h2, h3.below hb h3.lt⟩)
          · rw [if_neg q7] at h ⊢
            trivial
  · exact phiT_val h he
  · simp only [Bool.or_eq_true, decide_eq_true_eq, Bool.false_eq_true] at hl
    rcases hl with rfl | rfl
    · exact by simpa [upd] using h
    · exact by simpa [upd] using h
  · intro x w1 bA hold hb
    refine ⟨fun _ _ hbel hdep => ?_, fun h => absurd h (by decide), fun h => absurd h (by decide)⟩
    have e11 : bA.tmps[11]?.getD undef = .pointer (some ⟨B11, 0, none⟩) := hb 11
    have cc0 := ((R.out.below hbel).q11.cell 0)
    have cc1 := ((R.out.below hbel).q11.cell 1)
    refine phi_run (.agg #[.bool true, .slice A11 n11 c11]) ?_ rfl
    clear hb hdep hold
    go_simp
  · intro x w1 bA hold hb
    refine ⟨fun _ _ hbel hdep => ?_, fun h => absurd h (by decide), fun h => absurd h (by decide)⟩
    refine phi_call ?_ ((Term_any 1 1 w1 (by decide) (by decide) (by decide) (by decide) (by decide)).mono fun e w' h => (by obtain ⟨v, he, hv, hb'⟩ := h; exact ⟨v, he, hb', hv⟩))
    clear hb hdep hold
    go_simp
  · intro x w1 bA hold hb
    refine ⟨fun _ _ hbel hdep => ?_, fun h => absurd h (by decide), fun h => absurd h (by decide)⟩
    refine phi_call ?_ ((Term_any 1 1 w1 (by decide) (by decide) (by decide) (by decide) (by decide)).mono fun e w' h => (by obtain ⟨v, he, hv, hb'⟩ := h; exact ⟨v, he, hb', hv⟩))
    clear hb hdep hold
    go_simp
  · intro x w1 bA hold hb
    refine ⟨fun _ _ hbel hdep => ?_, fun h => absurd h (by decide), fun h => absurd h (by decide)⟩
    have e50 : bA.tmps[50]?.getD undef = .agg #[.bool true, .slice A11 n11 c11] := (hb 50).trans (hdep 0 (by decide))
    have p51 := hdep 1 (by decide)
    have e51 : bA.tmps[51]?.getD undef = x 1 := hb 51
    generalize x 1 = x51 at p51 e51
    have P51 := Lib.hid (show (fun v w => PolyV w v (some [(1, 1)])) x51 w1 from p51)
    clear p51
    have p52 := hdep 2 (by decide)
    have e52 : bA.tmps[52]?.getD undef = x 2 := hb 52
    generalize x 2 = x52 at p52 e52
    have P52 := Lib.hid (show (fun v w => PolyV w v (some [(1, 1)])) x52 w1 from p52)
    clear p52
    refine phi_call ?_ ((Set_big _ x51 x52 _ _ w1 (R.out.below hbel).p11 P51.out P52.out).mono fun e w' h => ⟨_, h.1, h.2, rfl⟩)
    clear hb hdep hold
    go_simp
  · intro x w1 bA hold hb
    refine ⟨fun _ _ hbel hdep => ?_, fun h => absurd h (by decide), fun h => absurd h (by decide)⟩
    have e53 : bA.tmps[53]?.getD undef = .tuple #[.agg #[.bool false, .slice none 0 0], .int .i64 9] := (hb 53).trans (hdep 3 (by decide))
    refine phi_run (.tuple #[.agg #[.bool false, .slice none 0 0], .int .i64 9]) ?_ rfl
    clear hb hdep hold
    go_simp
  · intro x w1 bA hold hb
    refine ⟨fun _ _ hbel hdep => ?_, fun h => absurd h (by decide), fun h => absurd h (by decide)⟩
    have e49 : bA.tmps[49]?.getD undef = .tuple #[.agg #[.bool false, .slice none 0 0], .int .i64 9] := (hb 49).trans (hdep 4 (by decide))
    refine phi_run (.agg #[.bool false, .slice none 0 0]) ?_ rfl
    clear hb hdep hold
    go_simp
  · intro x w1 bA hold hb
    refine ⟨fun h => absurd h (by decide), fun h => absurd h (by decide), fun _ hdep => ⟨.int .i64 9, rfl, ?_, rfl⟩⟩
    have e49 : bA.tmps[49]?.getD undef = .tuple #[.agg #[.bool false, .slice none 0 0], .int .i64 9] := (hb 49).trans (hdep 4 (by decide) _ rfl)
    clear hb hdep hold
    go_simp
  · intro x w1 bA hold hb
    refine ⟨fun _ _ hbel hdep => ?_, fun h => absurd h (by decide), fun h => absurd h (by decide)⟩
    refine phi_make (.pointer (some ⟨w1.heap.size, 0, none⟩)) (w1.alloc (.cells #[.bool false, .slice none 0 0] 38)) ?_ ((Below.refl _ _).alloc (Nat.le_refl _) _) (⟨w1.heap.size, rfl, hbel.size, Arr.new w1 38 [.bool false, .slice none 0 0]⟩)
    clear hb hdep hold
    go_simp
  · intro x w1 bA hold hb
    refine ⟨fun _ h => absurd rfl h, fun _ hbel hdep => ?_, fun h => absurd h (by decide)⟩
    have p13 := hdep 7 (by decide)
    have e13 : bA.tmps[13]?.getD undef = x 7 := hb 13
    have P13 := Lib.hid (show (fun v w => ∃ g, v = .pointer (some ⟨g, 0, none⟩) ∧ w3.heap.size ≤ g ∧ Arr w g 38 [.bool false, .slice none 0 0]) (x 7) w1 from p13)
    clear p13
    have e54 : bA.tmps[54]?.getD undef = .agg #[.bool false, .slice none 0 0] := (hb 54).trans (hdep 5 (by decide))
    clear hb hdep hold
    obtain ⟨g, eb, hg, ag⟩ := P13.out
    rw [eb] at e13
    have c0 := ag.cell 0
    have c1 := ag.cell 1
    have f0 := ag.frozen 0
    have f1 := ag.frozen 1
    have AG := Lib.hid ag
    have HXg := Lib.hid eb
    have HBL := Lib.hid hbel
    clear ag eb P13 hbel
    refine phl_st (R := fun x W => ∃ (g : Nat), x 7 = .pointer (some ⟨g, 0, none⟩) ∧ w3.heap.size ≤ g ∧ Arr W g 38 [.bool false, .slice none 0 0] ∧ Below w3.heap.size w3 W) ((w1.setCell ⟨g, 0, none⟩ (.bool false)).setCell ⟨g, 1, none⟩ (.slice none 0 0)) ?_ rfl (fun v => ⟨g, (by simpa [upd] using HXg.out), hg, (AG.out.set 0 _).set 1 _, (HBL.out.setCell (p := ⟨g, 0, none⟩) hg _).setCell (p := ⟨g, 1, none⟩) hg _⟩) rfl
    go_simp
  · intro x w1 bA hold hb
    refine ⟨fun h => absurd h (by decide), fun h => absurd h (by decide), fun _ hdep => ⟨.int .i64 9, rfl, ?_, rfl⟩⟩
    have e55 : bA.tmps[55]?.getD undef = .int .i64 9 := (hb 55).trans (hdep 6 (by decide) _ rfl)
    clear hb hdep hold
    go_simp
  intro x w1 hR hall
  have x0e : x 0 = .agg #[.bool true, .slice A11 n11 c11] := hall 0 _ (by simp) rfl
  have x3e : x 3 = .tuple #[.agg #[.bool false, .slice none 0 0], .int .i64 9] := hall 3 _ (by simp) rfl
  have x4e : x 4 = .tuple #[.agg #[.bool false, .slice none 0 0], .int .i64 9] := hall 4 _ (by simp) rfl
  have x5e : x 5 = .agg #[.bool false, .slice none 0 0] := hall 5 _ (by simp) rfl
  have x6e : x 6 = .int .i64 9 := hall 6 _ (by simp) rfl
  have x9e : x 9 = .int .i64 9 := hall 9 _ (by simp) rfl
  simp only [putAll, dstOf, Act.put, List.map_cons, List.map_nil, List.setIfInBounds_toArray, List.set_cons_succ, List.set_cons_zero, Nat.reduceAdd, x0e, x3e, x4e, x5e, x6e, x9e]
  clear x0e x3e x4e x5e x6e x9e hall
  obtain ⟨g13, e13, hg13, q13, hb16⟩ := hR
  rw [e13]
  have R' := Lib.hid (R.out.below hb16)
  have Q13 := Lib.hid q13
  clear R hb16 hg13 e13 q13
  generalize w1 = w16 at *
  clear w3
  have cw := HCN.out
  have HT1 := Lib.hid (bTerm_any (-1125899906842624) n (-1048576) w16 (by decide) (by have := HN.out; omega) (by decide))
  go_wp2_with fail
  refine HT1.out.mono ?_
  rintro e w17 ⟨v58, rfl, hp58, hb17⟩
  have hp58' : PolyB w17 v58 (some [((n, -1048576), -1125899906842624)]) := by
    have h2 : trmB (-1125899906842624) n (-1048576) = some [((n, -1048576), -1125899906842624)] := by
      have h3 : wiB n 1048576 = true := wiB_in.2 (by have := HN.out; omega)
      unfold trmB
      rw [if_neg (by decide), if_pos ⟨by decide, h3, by decide⟩]
    rw [← h2]; exact hp58
  obtain ⟨A15, n15, c15, rfl⟩ := hp58'.fsome
  have P15' := Lib.hid hp58'
  have R := Lib.hid (R'.out.below hb17)
  have Q13' := Lib.hid (Q13.out.below hb17 Q13.out.lt)
  clear hp58 hp58' hb17 HT1 R' Q13
  have hW : ∀ W, W = w17.alloc (.cells #[.bool false, .slice A15 n15 c15] 27) → ∃ B15, B15 = w17.heap.size ∧ Arr W B15 27 [.bool false, .slice A15 n15 c15] ∧ Below w17.heap.size w17 W := by
    intro W hW
    subst hW
    exact ⟨_, rfl, Arr.new _ _ [_, _], (Below.refl _ _).alloc (Nat.le_refl _) _⟩
  have HW := Lib.hid hW
  clear hW
  go_upto_region 12 with fail
  have hW := HW.out
  clear HW
  generalize w17.alloc (.cells #[.bool false, .slice A15 n15 c15] 27) = w18 at hW ⊢
  obtain ⟨B15, hB15, q15, hb18⟩ := hW w18 rfl
  rw [← hB15]
  have Q15 := Lib.hid q15
  have P15 := Lib.hid (P15'.out.below hb18)
  have R' := Lib.hid (R.out.below hb18)
  have Q13 := Lib.hid (Q13'.out.below hb18 Q13'.out.lt)
  clear hW hB15 q15 hb18 P15' R Q13'
  have c130 := Q13.out.cell 0
  have c131 := Q13.out.cell 1
  have HT1 := Lib.hid (Equal_any (.agg #[.bool false, .slice none 0 0]) (.agg #[.bool false, .slice none 0 0]) (some []) (some []) w18 (PolyV.zero _) (PolyV.zero _) ⟨Can.nil, Lim.nil⟩ ⟨Can.nil, Lim.nil⟩)
  rw [show eqP (some []) (some []) = true from rfl] at HT1
  go_wp2_with fail
  refine HT1.out.mono ?_
  rintro e w19 ⟨rfl, hb⟩
  have R2 := Lib.hid (R'.out.below hb)
  have Q15b := Lib.hid (Q15.out.below hb Q15.out.lt)
  have P15b := Lib.hid (P15.out.below hb)
  clear c130 c131 HT1 hb R' Q15 P15 Q13
  have R' := Lib.hid R2.out
  have Q15 := Lib.hid Q15b.out
  have P15 := Lib.hid P15b.out
  clear R2 Q15b P15b
  have c110 := R'.out.q11.cell 0
  have c111 := R'.out.q11.cell 1
  have HT1 := Lib.hid (bBig_any (.agg #[.bool true, .slice A11 n11 c11]) none w19 R'.out.p11)
  rw [show (none : PolB).isNone = true from rfl] at HT1
  go_wp2_with fail
  refine HT1.out.mono ?_
  rintro e w20 ⟨rfl, hb⟩
  have R2 := Lib.hid (R'.out.below hb)
  have Q15b := Lib.hid (Q15.out.below hb Q15.out.lt)
  have P15b := Lib.hid (P15.out.below hb)
  clear c110 c111 HT1 hb R' Q15 P15
  have R' := Lib.hid R2.out
  have Q15 := Lib.hid Q15b.out
  have P15 := Lib.hid P15b.out
  clear R2 Q15b P15b
  have c120 := R'.out.q12.cell 0
  have c121 := R'.out.q12.cell 1
  have HT1 := Lib.hid (bBig_any (.agg #[.bool true, .slice A12 n12 c12]) none w20 R'.out.p12)
  rw [show (none : PolB).isNone = true from rfl] at HT1
  go_wp2_with fail
  refine HT1.out.mono ?_
  rintro e w21 ⟨rfl, hb⟩
  have R2 := Lib.hid (R'.out.below hb)
  have Q15b := Lib.hid (Q15.out.below hb Q15.out.lt)
  have P15b := Lib.hid (P15.out.below hb)
  clear c120 c121 HT1 hb R' Q15 P15
  have R' := Lib.hid R2.out
  have Q15 := Lib.hid Q15b.out
  have P15 := Lib.hid P15b.out
  clear R2 Q15b P15b
  have c110 := R'.out.q11.cell 0
  have c111 := R'.out.q11.cell 1
  have c120 := R'.out.q12.cell 0
  have c121 := R'.out.q12.cell 1
  have HT1 := Lib.hid (bEqual_any (.agg #[.bool true, .slice A11 n11 c11]) (.agg #[.bool true, .slice A12 n12 c12]) none none w21 R'.out.p11 R'.out.p12 (by decide) (by decide))
  rw [show eqB none none = true from rfl] at HT1
  go_wp2_with fail
  refine HT1.out.mono ?_
  rintro e w22 ⟨rfl, hb⟩
  have R2 := Lib.hid (R'.out.below hb)
  have Q15b := Lib.hid (Q15.out.below hb Q15.out.lt)
  have P15b := Lib.hid (P15.out.below hb)
  clear c110 c111 c120 c121 HT1 hb R' Q15 P15
  have R' := Lib.hid R2.out
  have Q15 := Lib.hid Q15b.out
  have P15 := Lib.hid P15b.out
  clear R2 Q15b P15b
  have c110 := R'.out.q11.cell 0
  have c111 := R'.out.q11.cell 1
  have HT1 := Lib.hid (bText_any (.agg #[.bool true, .slice A11 n11 c11]) none [97] [122] w22 R'.out.p11 trivial (by decide) (by decide) (by decide) (HTB.out.below R'.out.bl))
  rw [show txtB [97] [122] none = [98, 105, 103] from rfl] at HT1
  go_wp2_with fail
  refine HT1.out.mono ?_
  rintro e w23 ⟨rfl, hb⟩
  have R2 := Lib.hid (R'.out.below hb)
  have Q15b := Lib.hid (Q15.out.below hb Q15.out.lt)
  have P15b := Lib.hid (P15.out.below hb)
  clear c110 c111 HT1 hb R' Q15 P15
  have R' := Lib.hid R2.out
  have Q15 := Lib.hid Q15b.out
  have P15 := Lib.hid P15b.out
  clear R2 Q15b P15b
  have c110 := R'.out.q11.cell 0
  have c111 := R'.out.q11.cell 1
  have HT1 := Lib.hid (Terms_any (.agg #[.bool true, .slice A11 n11 c11]) none w23 R'.out.p11 (by decide))
  go_wp2_with fail
  refine HT1.out.mono ?_
  rintro e w24 ⟨vt, rfl, ho, hb⟩
  obtain ⟨At, ct, hvt⟩ := ho.form
  have hvt2 : vt = .slice At 0 ct := hvt
  subst hvt2
  clear ho hvt
  have R2 := Lib.hid (R'.out.below hb)
  have Q15b := Lib.hid (Q15.out.below hb Q15.out.lt)
  have P15b := Lib.hid (P15.out.below hb)
  clear c110 c111 HT1 hb R' Q15 P15
  have R' := Lib.hid R2.out
  have Q15 := Lib.hid Q15b.out
  have P15 := Lib.hid P15b.out
  clear R2 Q15b P15b
  have c150 := Q15.out.cell 0
  have c151 := Q15.out.cell 1
  have HT1 := Lib.hid (bBig_any (.agg #[.bool false, .slice A15 n15 c15]) _ w24 P15.out)
  rw [Option.isNone_some] at HT1
  go_wp2_with fail
  refine HT1.out.mono ?_
  rintro e w25 ⟨rfl, hb⟩
  have R2 := Lib.hid (R'.out.below hb)
  have Q15b := Lib.hid (Q15.out.below hb Q15.out.lt)
  have P15b := Lib.hid (P15.out.below hb)
  clear c150 c151 HT1 hb R' Q15 P15
  have R' := Lib.hid R2.out
  have Q15 := Lib.hid Q15b.out
  have P15 := Lib.hid P15b.out
  clear R2 Q15b P15b
  have c150 := Q15.out.cell 0
  have c151 := Q15.out.cell 1
  have HT1 := Lib.hid (bCoef_any (.agg #[.bool false, .slice A15 n15 c15]) _ n (-1048576) w25 P15.out ⟨⟨by unfold Srt2; simp, by simp⟩, ⟨by simp, (by simp; have := HN.out; omega), by simp⟩⟩ (show (1 : Nat) ≤ 1000000000 by decide))
  rw [show cg2 ((some [((n, (-1048576 : Int)), (-1125899906842624 : Int))] : PolB).getD []) (n, -1048576) = -1125899906842624 from by simp [cg2]] at HT1
  go_wp2_with fail
  refine HT1.out.mono ?_
  rintro e w26 ⟨rfl, hb⟩
  have R2 := Lib.hid (R'.out.below hb)
  have Q15b := Lib.hid (Q15.out.below hb Q15.out.lt)
  have P15b := Lib.hid (P15.out.below hb)
  clear c150 c151 HT1 hb R' Q15 P15
  have R' := Lib.hid R2.out
  have Q15 := Lib.hid Q15b.out
  have P15 := Lib.hid P15b.out
  clear R2 Q15b P15b
  have HT1 := Lib.hid (bTerm_any 1125899906842625 0 0 w26 (by decide) (by decide) (by decide))
  go_wp2_with fail
  refine HT1.out.mono ?_
  rintro e w27 ⟨v5, rfl, hp5, hb⟩
  have P5 := Lib.hid (show PolyB w27 v5 none from hp5)
  clear hp5
  have R2 := Lib.hid (R'.out.below hb)
  have Q15b := Lib.hid (Q15.out.below hb Q15.out.lt)
  have P15b := Lib.hid (P15.out.below hb)
  clear HT1 hb R' Q15 P15
  have R' := Lib.hid R2.out
  have Q15 := Lib.hid Q15b.out
  have P15 := Lib.hid P15b.out
  clear R2 Q15b P15b
  have HT1 := Lib.hid (bBig_any v5 none w27 P5.out)
  rw [show (none : PolB).isNone = true from rfl] at HT1
  go_wp2_with fail
  refine HT1.out.mono ?_
  rintro e w28 ⟨rfl, hb⟩
  clear P5
  have R2 := Lib.hid (R'.out.below hb)
  have Q15b := Lib.hid (Q15.out.below hb Q15.out.lt)
  have P15b := Lib.hid (P15.out.below hb)
  clear HT1 hb R' Q15 P15
  have R' := Lib.hid R2.out
  have Q15 := Lib.hid Q15b.out
  have P15 := Lib.hid P15b.out
  clear R2 Q15b P15b
  have HT1 := Lib.hid (bTerm_any 0 1048577 0 w28 (by decide) (by decide) (by decide))
  go_wp2_with fail
  refine HT1.out.mono ?_
  rintro e w29 ⟨v5, rfl, hp5, hb⟩
  have P5 := Lib.hid (show PolyB w29 v5 (some []) from hp5)
  clear hp5
  have R2 := Lib.hid (R'.out.below hb)
  have Q15b := Lib.hid (Q15.out.below hb Q15.out.lt)
  have P15b := Lib.hid (P15.out.below hb)
  clear HT1 hb R' Q15 P15
  have R' := Lib.hid R2.out
  have Q15 := Lib.hid Q15b.out
  have P15 := Lib.hid P15b.out
  clear R2 Q15b P15b
  have HT1 := Lib.hid (bEqual_any v5 (.agg #[.bool false, .slice none 0 0]) (some []) (some []) w29 P5.out (PolyB.zero _) (by decide) (by decide))
  rw [show eqB (some []) (some []) = true from rfl] at HT1
  go_wp2_with fail
  refine HT1.out.mono ?_
  rintro e w30 ⟨rfl, hb⟩
  have R2 := Lib.hid (R'.out.below hb)
  have Q15b := Lib.hid (Q15.out.below hb Q15.out.lt)
  have P15b := Lib.hid (P15.out.below hb)
  clear HT1 hb R' Q15 P15
  have R' := Lib.hid R2.out
  have Q15 := Lib.hid Q15b.out
  have P15 := Lib.hid P15b.out
  clear R2 Q15b P15b
  go_wp2_with fail
  go_ret
  exact ⟨rfl, R'.out.bl⟩
end Go.Proofs.YtbfggncmjdhapaaGreatDoor
