/- bivariate: unit, power. -/
import Derived.Test.YtbfggncmjdhapaaGreatDoorZBof
import Derived.Test.YtbfggncmjdhapaaGreatDoorZPhg
import Derived.Test.YtbfggncmjdhapaaGreatDoorZCoe
import Derived.Test.YtbfggncmjdhapaaGreatDoorZPhx
namespace Go.Proofs.YtbfggncmjdhapaaGreatDoor
open Go.RowKit
set_option linter.unusedVariables false

/-- a single term with the coefficient 1 or -1 -/
def unitP (p : Pol) : Bool := decide (lowL (p.getD []) = highL (p.getD []) ∧ (cf (p.getD []) (lowL (p.getD [])) = 1 ∨ cf (p.getD []) (lowL (p.getD [])) = -1))
set_option maxHeartbeats 4000000 in
set_option maxRecDepth 100000 in
theorem unit_any (vp : Value) (p : Pol) (w : World) (hp : PolyV w vp p) (okp : okP p) :
    Calls Tryz.prog 40 #[vp] w fun e w' => e = .returned (.bool (unitP p)) ∧ Below w.heap.size w w' := by
  have HLO := Lib.hid (fun W (hb : Below w.heap.size w W) => Low_any vp p W (hp.below hb) okp)
  have HHI := Lib.hid (fun W (hb : Below w.heap.size w W) => High_any vp p W (hp.below hb) okp)
  have HCO := Lib.hid (fun W (hb : Below w.heap.size w W) => Coef_any vp p (lowL (p.getD [])) W (hp.below hb) okp)
  obtain ⟨U, hU⟩ : ∃ U, U = unitP p := ⟨_, rfl⟩
  rw [← hU]
  have hU2 : U = decide (lowL (p.getD []) = highL (p.getD []) ∧ (cf (p.getD []) (lowL (p.getD [])) = 1 ∨ cf (p.getD []) (lowL (p.getD [])) = -1)) := hU
  clear hU
  generalize hcv : cf (p.getD []) (lowL (p.getD [])) = cv0 at *
  generalize hlo : lowL (p.getD []) = lo at *
  generalize hhi : highL (p.getD []) = hi at *
  clear hcv hlo hhi
  have HU0 := Lib.hid hU2
  clear hU2
  obtain ⟨b1, A, n, c, rfl, j1, j2⟩ := hp.parts
  clear hp j1 j2 okp
  have hW : ∀ W, W = w.alloc (.cells #[.bool b1, .slice A n c] 38) → Arr W w.heap.size 38 [.bool b1, .slice A n c] ∧ Below w.heap.size w W := by
    intro W hW
    subst hW
    exact ⟨Arr.new _ _ [_, _], (Below.refl _ _).alloc (Nat.le_refl _) _⟩
  by_cases h1 : lo ≠ hi
  · have HZ := Lib.hid (show (lo == hi) = false from beq_eq_false_iff_ne.2 h1)
    have HU := Lib.hid (show U = false from by rw [HU0.out]; exact decide_eq_false fun h => h1 h.1)
    clear h1
    go_enter Tryz.func40, Tryz.ntmps40
    go_upto_region 1 with fail
    generalize w.alloc (.cells #[.bool b1, .slice A n c] 38) = w3 at hW ⊢
    obtain ⟨q1, hb3⟩ := hW w3 rfl
    have Q1 := Lib.hid q1
    have HB3 := Lib.hid hb3
    clear hW q1 hb3
    refine wp_region_phy (fun a b => Below a.heap.size a b) (fun h k => h.trans (k.mono h.size)) ((Below.refl _ _).drew) (by kernel_rfl) (by kernel_rfl) (by kernel_rfl) (by kernel_rfl) (phiT (fun i => ([some (.agg #[.bool b1, .slice A n c]), some (.agg #[.bool b1, .slice A n c]), some (.int .i64 lo), some (.int .i64 cv0), some (.int .i64 cv0)] : List (Option Value)).getD i none) (fun i v w => True)) (fun i v w w' h hb => ?_) ⟨?_, ?_, ?_, ?_, ?_, trivial⟩ ?_
    · unfold phiT at h ⊢
      split
      · next u hu => rw [hu] at h; exact h
      · next hu =>
        rw [hu] at h
        exact True.intro
    · intro x w1 bA hT hdep hold hb
      refine .inl ⟨trivial, ?_⟩
      have e1 : bA.tmps[1]?.getD undef = .pointer (some ⟨w.heap.size, 0, none⟩) := hb 1
      have cc0 := (Q1.out.below hT Q1.out.lt).cell 0
      have cc1 := (Q1.out.below hT Q1.out.lt).cell 1
      refine phx_run (.agg #[.bool b1, .slice A n c]) ?_ (Below.refl _ _) rfl
      clear hb hdep hold
      go_simp
    · intro x w1 bA hT hdep hold hb
      refine .inl ⟨trivial, ?_⟩
      have e1 : bA.tmps[1]?.getD undef = .pointer (some ⟨w.heap.size, 0, none⟩) := hb 1
      have cc0 := (Q1.out.below hT Q1.out.lt).cell 0
      have cc1 := (Q1.out.below hT Q1.out.lt).cell 1
      refine phx_run (.agg #[.bool b1, .slice A n c]) ?_ (Below.refl _ _) rfl
      clear hb hdep hold
      go_simp
    · intro x w1 bA hT hdep hold hb
      refine .inl ⟨trivial, ?_⟩
      have e5 : bA.tmps[5]?.getD undef = .agg #[.bool b1, .slice A n c] := (hb 5).trans (hdep 1 (by decide))
      refine phx_call ?_ ((HLO.out w1 (HB3.out.trans (hT.mono HB3.out.size))).mono fun e w' h => ⟨_, h.1, h.2, rfl⟩)
      clear hb hdep hold
      go_simp
    · intro x w1 bA hT hdep hold hb
      refine .inl ⟨trivial, ?_⟩
      have e4 : bA.tmps[4]?.getD undef = .agg #[.bool b1, .slice A n c] := (hb 4).trans (hdep 0 (by decide))
      have e6 : bA.tmps[6]?.getD undef = .int .i64 lo := (hb 6).trans (hdep 2 (by decide))
      refine phx_call ?_ ((HCO.out w1 (HB3.out.trans (hT.mono HB3.out.size))).mono fun e w' h => ⟨_, h.1, h.2, rfl⟩)
      clear hb hdep hold
      go_simp
    · intro x w1 bA hT hdep hold hb
      refine .inl ⟨trivial, ?_⟩
      have e7 : bA.tmps[7]?.getD undef = .int .i64 cv0 := (hb 7).trans (hdep 3 (by decide))
      refine phx_run (.int .i64 cv0) ?_ (Below.refl _ _) rfl
      clear hb hdep hold
      go_simp
    intro x w1 hT hall
    have x0e : x 0 = .agg #[.bool b1, .slice A n c] := hall 0 (by decide)
    have x1e : x 1 = .agg #[.bool b1, .slice A n c] := hall 1 (by decide)
    have x2e : x 2 = .int .i64 lo := hall 2 (by decide)
    have x3e : x 3 = .int .i64 cv0 := hall 3 (by decide)
    have x4e : x 4 = .int .i64 cv0 := hall 4 (by decide)
    simp only [putAll, dstOf, Act.put, List.map_cons, List.map_nil, List.setIfInBounds_toArray, List.set_cons_succ, List.set_cons_zero, Nat.reduceAdd, x0e, x1e, x2e, x3e, x4e]
    clear x0e x1e x2e x3e x4e hall
    have Q2 := Lib.hid (Q1.out.below hT Q1.out.lt)
    have HB4 := Lib.hid (HB3.out.trans (hT.mono HB3.out.size))
    clear Q1 HB3 hT
    generalize w1 = w4 at *
    have Q1 := Lib.hid Q2.out
    have HB3 := Lib.hid HB4.out
    clear Q2 HB4
    go_wp2_with fail
    refine wp_region_phy (fun a b => Below a.heap.size a b) (fun h k => h.trans (k.mono h.size)) ((Below.refl _ _).drew) (by kernel_rfl) (by kernel_rfl) (by kernel_rfl) (by kernel_rfl) (phiT (fun i => ([some (.agg #[.bool b1, .slice A n c]), some (.int .i64 lo), some (.agg #[.bool b1, .slice A n c]), some (.int .i64 hi), some (.bool false), some (.bool false), some (undef), some (undef), some (undef), some (undef), some (undef), some (undef), some (.bool false), some (.bool false)] : List (Option Value)).getD i none) (fun i v w => True)) (fun i v w w' h hb => ?_) ⟨?_, ?_, ?_, ?_, ?_, ?_, ?_, ?_, ?_, ?_, ?_, ?_, ?_, ?_, trivial⟩ ?_
    · unfold phiT at h ⊢
      split
      · next u hu => rw [hu] at h; exact h
      · next hu =>
        rw [hu] at h
        exact True.intro
    · intro x w1 bA hT hdep hold hb
      refine .inl ⟨trivial, ?_⟩
      have e1 : bA.tmps[1]?.getD undef = .pointer (some ⟨w.heap.size, 0, none⟩) := hb 1
      have cc0 := (Q1.out.below hT Q1.out.lt).cell 0
      have cc1 := (Q1.out.below hT Q1.out.lt).cell 1
      refine phx_run (.agg #[.bool b1, .slice A n c]) ?_ (Below.refl _ _) rfl
      clear hb hdep hold
      go_simp
    · intro x w1 bA hT hdep hold hb
      refine .inl ⟨trivial, ?_⟩
      have e8 : bA.tmps[8]?.getD undef = .agg #[.bool b1, .slice A n c] := (hb 8).trans (hdep 0 (by decide))
      refine phx_call ?_ ((HLO.out w1 (HB3.out.trans (hT.mono HB3.out.size))).mono fun e w' h => ⟨_, h.1, h.2, rfl⟩)
      clear hb hdep hold
      go_simp
    · intro x w1 bA hT hdep hold hb
      refine .inl ⟨trivial, ?_⟩
      have e1 : bA.tmps[1]?.getD undef = .pointer (some ⟨w.heap.size, 0, none⟩) := hb 1
      have cc0 := (Q1.out.below hT Q1.out.lt).cell 0
      have cc1 := (Q1.out.below hT Q1.out.lt).cell 1
      refine phx_run (.agg #[.bool b1, .slice A n c]) ?_ (Below.refl _ _) rfl
      clear hb hdep hold
      go_simp
    · intro x w1 bA hT hdep hold hb
      refine .inl ⟨trivial, ?_⟩
      have e10 : bA.tmps[10]?.getD undef = .agg #[.bool b1, .slice A n c] := (hb 10).trans (hdep 2 (by decide))
      refine phx_call ?_ ((HHI.out w1 (HB3.out.trans (hT.mono HB3.out.size))).mono fun e w' h => ⟨_, h.1, h.2, rfl⟩)
      clear hb hdep hold
      go_simp
    · intro x w1 bA hT hdep hold hb
      refine .inl ⟨trivial, ?_⟩
      have e9 : bA.tmps[9]?.getD undef = .int .i64 lo := (hb 9).trans (hdep 1 (by decide))
      have e11 : bA.tmps[11]?.getD undef = .int .i64 hi := (hb 11).trans (hdep 3 (by decide))
      have zz := HZ.out
      refine phx_run (.bool false) ?_ (Below.refl _ _) rfl
      clear hb hdep hold
      go_simp
    · intro x w1 bA hT hdep hold hb
      refine .inl ⟨trivial, ?_⟩
      have e12 : bA.tmps[12]?.getD undef = .bool false := (hb 12).trans (hdep 4 (by decide))
      refine phx_run (.bool false) ?_ (Below.refl _ _) rfl
      clear hb hdep hold
      go_simp
    · intro x w1 bA hT hdep hold hb
      exact .inr ⟨⟨13, rfl, .inl ((hb 13).trans (hdep 5 (by decide)))⟩, rfl⟩
    · intro x w1 bA hT hdep hold hb
      exact .inr ⟨⟨13, rfl, .inl ((hb 13).trans (hdep 5 (by decide)))⟩, rfl⟩
    · intro x w1 bA hT hdep hold hb
      exact .inr ⟨⟨13, rfl, .inl ((hb 13).trans (hdep 5 (by decide)))⟩, rfl⟩
    · intro x w1 bA hT hdep hold hb
      exact .inr ⟨⟨16, rfl, .inr ((hb 16).trans (hdep 8 (by decide)))⟩, rfl⟩
    · intro x w1 bA hT hdep hold hb
      exact .inr ⟨⟨16, rfl, .inr ((hb 16).trans (hdep 8 (by decide)))⟩, rfl⟩
    · intro x w1 bA hT hdep hold hb
      exact .inr ⟨⟨13, rfl, .inl ((hb 13).trans (hdep 5 (by decide)))⟩, rfl⟩
    · intro x w1 bA hT hdep hold hb
      refine .inl ⟨trivial, ?_⟩
      have e13 : bA.tmps[13]?.getD undef = .bool false := (hb 13).trans (hdep 5 (by decide))
      refine phx_run (.bool false) ?_ (Below.refl _ _) rfl
      clear hb hdep hold
      go_simp
    · intro x w1 bA hT hdep hold hb
      refine .inl ⟨trivial, ?_⟩
      have e20 : bA.tmps[20]?.getD undef = .bool false := (hb 20).trans (hdep 12 (by decide))
      refine phx_run (.bool false) ?_ (Below.refl _ _) rfl
      clear hb hdep hold
      go_simp
    intro x w1 hT hall
    have x0e : x 0 = .agg #[.bool b1, .slice A n c] := hall 0 (by decide)
    have x1e : x 1 = .int .i64 lo := hall 1 (by decide)
    have x2e : x 2 = .agg #[.bool b1, .slice A n c] := hall 2 (by decide)
    have x3e : x 3 = .int .i64 hi := hall 3 (by decide)
    have x4e : x 4 = .bool false := hall 4 (by decide)
    have x5e : x 5 = .bool false := hall 5 (by decide)
    have x6e : x 6 = undef := hall 6 (by decide)
    have x7e : x 7 = undef := hall 7 (by decide)
    have x8e : x 8 = undef := hall 8 (by decide)
    have x9e : x 9 = undef := hall 9 (by decide)
    have x10e : x 10 = undef := hall 10 (by decide)
    have x11e : x 11 = undef := hall 11 (by decide)
    have x12e : x 12 = .bool false := hall 12 (by decide)
    have x13e : x 13 = .bool false := hall 13 (by decide)
    simp only [putAll, dstOf, Act.put, List.map_cons, List.map_nil, List.setIfInBounds_toArray, List.set_cons_succ, List.set_cons_zero, Nat.reduceAdd, x0e, x1e, x2e, x3e, x4e, x5e, x6e, x7e, x8e, x9e, x10e, x11e, x12e, x13e]
    clear x0e x1e x2e x3e x4e x5e x6e x7e x8e x9e x10e x11e x12e x13e hall
    have HB4 := Lib.hid (HB3.out.trans (hT.mono HB3.out.size))
    clear hT
    go_wp2_with fail
    go_ret
    exact ⟨by rw [HU.out]; rfl, HB4.out⟩
  replace h1 : lo = hi := Decidable.not_not.1 h1
  have HZ := Lib.hid (show (lo == hi) = true from beq_iff_eq.2 h1)
  by_cases h2 : cv0 = 1
  · have HZ1 := Lib.hid (show (cv0 == 1) = true from beq_iff_eq.2 h2)
    have HU := Lib.hid (show U = true from by rw [HU0.out]; exact decide_eq_true ⟨h1, .inl h2⟩)
    clear h1 h2
    go_enter Tryz.func40, Tryz.ntmps40
    go_upto_region 1 with fail
    generalize w.alloc (.cells #[.bool b1, .slice A n c] 38) = w3 at hW ⊢
    obtain ⟨q1, hb3⟩ := hW w3 rfl
    have Q1 := Lib.hid q1
    have HB3 := Lib.hid hb3
    clear hW q1 hb3
    refine wp_region_phy (fun a b => Below a.heap.size a b) (fun h k => h.trans (k.mono h.size)) ((Below.refl _ _).drew) (by kernel_rfl) (by kernel_rfl) (by kernel_rfl) (by kernel_rfl) (phiT (fun i => ([some (.agg #[.bool b1, .slice A n c]), some (.agg #[.bool b1, .slice A n c]), some (.int .i64 lo), some (.int .i64 cv0), some (.int .i64 cv0)] : List (Option Value)).getD i none) (fun i v w => True)) (fun i v w w' h hb => ?_) ⟨?_, ?_, ?_, ?_, ?_, trivial⟩ ?_
    · unfold phiT at h ⊢
      split
      · next u hu => rw [hu] at h; exact h
      · next hu =>
        rw [hu] at h
        exact True.intro
    · intro x w1 bA hT hdep hold hb
      refine .inl ⟨trivial, ?_⟩
      have e1 : bA.tmps[1]?.getD undef = .pointer (some ⟨w.heap.size, 0, none⟩) := hb 1
      have cc0 := (Q1.out.below hT Q1.out.lt).cell 0
      have cc1 := (Q1.out.below hT Q1.out.lt).cell 1
      refine phx_run (.agg #[.bool b1, .slice A n c]) ?_ (Below.refl _ _) rfl
      clear hb hdep hold
      go_simp
    · intro x w1 bA hT hdep hold hb
      refine .inl ⟨trivial, ?_⟩
      have e1 : bA.tmps[1]?.getD undef = .pointer (some ⟨w.heap.size, 0, none⟩) := hb 1
      have cc0 := (Q1.out.below hT Q1.out.lt).cell 0
      have cc1 := (Q1.out.below hT Q1.out.lt).cell 1
      refine phx_run (.agg #[.bool b1, .slice A n c]) ?_ (Below.refl _ _) rfl
      clear hb hdep hold
      go_simp
    · intro x w1 bA hT hdep hold hb
      refine .inl ⟨trivial, ?_⟩
      have e5 : bA.tmps[5]?.getD undef = .agg #[.bool b1, .slice A n c] := (hb 5).trans (hdep 1 (by decide))
      refine phx_call ?_ ((HLO.out w1 (HB3.out.trans (hT.mono HB3.out.size))).mono fun e w' h => ⟨_, h.1, h.2, rfl⟩)
      clear hb hdep hold
      go_simp
    · intro x w1 bA hT hdep hold hb
      refine .inl ⟨trivial, ?_⟩
      have e4 : bA.tmps[4]?.getD undef = .agg #[.bool b1, .slice A n c] := (hb 4).trans (hdep 0 (by decide))
      have e6 : bA.tmps[6]?.getD undef = .int .i64 lo := (hb 6).trans (hdep 2 (by decide))
      refine phx_call ?_ ((HCO.out w1 (HB3.out.trans (hT.mono HB3.out.size))).mono fun e w' h => ⟨_, h.1, h.2, rfl⟩)
      clear hb hdep hold
      go_simp
    · intro x w1 bA hT hdep hold hb
      refine .inl ⟨trivial, ?_⟩
      have e7 : bA.tmps[7]?.getD undef = .int .i64 cv0 := (hb 7).trans (hdep 3 (by decide))
      refine phx_run (.int .i64 cv0) ?_ (Below.refl _ _) rfl
      clear hb hdep hold
      go_simp
    intro x w1 hT hall
    have x0e : x 0 = .agg #[.bool b1, .slice A n c] := hall 0 (by decide)
    have x1e : x 1 = .agg #[.bool b1, .slice A n c] := hall 1 (by decide)
    have x2e : x 2 = .int .i64 lo := hall 2 (by decide)
    have x3e : x 3 = .int .i64 cv0 := hall 3 (by decide)
    have x4e : x 4 = .int .i64 cv0 := hall 4 (by decide)
    simp only [putAll, dstOf, Act.put, List.map_cons, List.map_nil, List.setIfInBounds_toArray, List.set_cons_succ, List.set_cons_zero, Nat.reduceAdd, x0e, x1e, x2e, x3e, x4e]
    clear x0e x1e x2e x3e x4e hall
    have Q2 := Lib.hid (Q1.out.below hT Q1.out.lt)
    have HB4 := Lib.hid (HB3.out.trans (hT.mono HB3.out.size))
    clear Q1 HB3 hT
    generalize w1 = w4 at *
    have Q1 := Lib.hid Q2.out
    have HB3 := Lib.hid HB4.out
    clear Q2 HB4
    go_wp2_with fail
    refine wp_region_phy (fun a b => Below a.heap.size a b) (fun h k => h.trans (k.mono h.size)) ((Below.refl _ _).drew) (by kernel_rfl) (by kernel_rfl) (by kernel_rfl) (by kernel_rfl) (phiT (fun i => ([some (.agg #[.bool b1, .slice A n c]), some (.int .i64 lo), some (.agg #[.bool b1, .slice A n c]), some (.int .i64 hi), some (.bool true), some (.bool true), some (.int .i64 cv0), some (.bool true), some (.bool true), some (undef), some (undef), some (.bool true), some (.bool true), some (.bool true)] : List (Option Value)).getD i none) (fun i v w => True)) (fun i v w w' h hb => ?_) ⟨?_, ?_, ?_, ?_, ?_, ?_, ?_, ?_, ?_, ?_, ?_, ?_, ?_, ?_, trivial⟩ ?_
    · unfold phiT at h ⊢
      split
      · next u hu => rw [hu] at h; exact h
      · next hu =>
        rw [hu] at h
        exact True.intro
    · intro x w1 bA hT hdep hold hb
      refine .inl ⟨trivial, ?_⟩
      have e1 : bA.tmps[1]?.getD undef = .pointer (some ⟨w.heap.size, 0, none⟩) := hb 1
      have cc0 := (Q1.out.below hT Q1.out.lt).cell 0
      have cc1 := (Q1.out.below hT Q1.out.lt).cell 1
      refine phx_run (.agg #[.bool b1, .slice A n c]) ?_ (Below.refl _ _) rfl
      clear hb hdep hold
      go_simp
    · intro x w1 bA hT hdep hold hb
      refine .inl ⟨trivial, ?_⟩
      have e8 : bA.tmps[8]?.getD undef = .agg #[.bool b1, .slice A n c] := (hb 8).trans (hdep 0 (by decide))
      refine phx_call ?_ ((HLO.out w1 (HB3.out.trans (hT.mono HB3.out.size))).mono fun e w' h => ⟨_, h.1, h.2, rfl⟩)
      clear hb hdep hold
      go_simp
    · intro x w1 bA hT hdep hold hb
      refine .inl ⟨trivial, ?_⟩
      have e1 : bA.tmps[1]?.getD undef = .pointer (some ⟨w.heap.size, 0, none⟩) := hb 1
      have cc0 := (Q1.out.below hT Q1.out.lt).cell 0
      have cc1 := (Q1.out.below hT Q1.out.lt).cell 1
      refine phx_run (.agg #[.bool b1, .slice A n c]) ?_ (Below.refl _ _) rfl
      clear hb hdep hold
      go_simp
    · intro x w1 bA hT hdep hold hb
      refine .inl ⟨trivial, ?_⟩
      have e10 : bA.tmps[10]?.getD undef = .agg #[.bool b1, .slice A n c] := (hb 10).trans (hdep 2 (by decide))
      refine phx_call ?_ ((HHI.out w1 (HB3.out.trans (hT.mono HB3.out.size))).mono fun e w' h => ⟨_, h.1, h.2, rfl⟩)
      clear hb hdep hold
      go_simp
    · intro x w1 bA hT hdep hold hb
      refine .inl ⟨trivial, ?_⟩
      have e9 : bA.tmps[9]?.getD undef = .int .i64 lo := (hb 9).trans (hdep 1 (by decide))
      have e11 : bA.tmps[11]?.getD undef = .int .i64 hi := (hb 11).trans (hdep 3 (by decide))
      have zz := HZ.out
      refine phx_run (.bool true) ?_ (Below.refl _ _) rfl
      clear hb hdep hold
      go_simp
    · intro x w1 bA hT hdep hold hb
      refine .inl ⟨trivial, ?_⟩
      have e12 : bA.tmps[12]?.getD undef = .bool true := (hb 12).trans (hdep 4 (by decide))
      refine phx_run (.bool true) ?_ (Below.refl _ _) rfl
      clear hb hdep hold
      go_simp
    · intro x w1 bA hT hdep hold hb
      refine .inl ⟨⟨13, rfl, (hb 13).trans (hdep 5 (by decide))⟩, ?_⟩
      have e3 : bA.tmps[3]?.getD undef = .int .i64 cv0 := hb 3
      refine phx_run (.int .i64 cv0) ?_ (Below.refl _ _) rfl
      clear hb hdep hold
      go_simp
    · intro x w1 bA hT hdep hold hb
      refine .inl ⟨⟨13, rfl, (hb 13).trans (hdep 5 (by decide))⟩, ?_⟩
      have e14 : bA.tmps[14]?.getD undef = .int .i64 cv0 := (hb 14).trans (hdep 6 (by decide))
      have zz := HZ1.out
      refine phx_run (.bool true) ?_ (Below.refl _ _) rfl
      clear hb hdep hold
      go_simp
    · intro x w1 bA hT hdep hold hb
      refine .inl ⟨⟨13, rfl, (hb 13).trans (hdep 5 (by decide))⟩, ?_⟩
      have e15 : bA.tmps[15]?.getD undef = .bool true := (hb 15).trans (hdep 7 (by decide))
      refine phx_run (.bool true) ?_ (Below.refl _ _) rfl
      clear hb hdep hold
      go_simp
    · intro x w1 bA hT hdep hold hb
      exact .inr ⟨⟨16, rfl, .inl ((hb 16).trans (hdep 8 (by decide)))⟩, rfl⟩
    · intro x w1 bA hT hdep hold hb
      exact .inr ⟨⟨16, rfl, .inl ((hb 16).trans (hdep 8 (by decide)))⟩, rfl⟩
    · intro x w1 bA hT hdep hold hb
      refine .inl ⟨⟨13, rfl, (hb 13).trans (hdep 5 (by decide))⟩, ?_⟩
      have e16 : bA.tmps[16]?.getD undef = .bool true := (hb 16).trans (hdep 8 (by decide))
      refine phx_run (.bool true) ?_ (Below.refl _ _) rfl
      clear hb hdep hold
      go_simp
    · intro x w1 bA hT hdep hold hb
      refine .inl ⟨trivial, ?_⟩
      have e13 : bA.tmps[13]?.getD undef = .bool true := (hb 13).trans (hdep 5 (by decide))
      have e19 : bA.tmps[19]?.getD undef = .bool true := (hb 19).trans (hdep 11 (by decide))
      refine phx_run (.bool true) ?_ (Below.refl _ _) rfl
      clear hb hdep hold
      go_simp
    · intro x w1 bA hT hdep hold hb
      refine .inl ⟨trivial, ?_⟩
      have e20 : bA.tmps[20]?.getD undef = .bool true := (hb 20).trans (hdep 12 (by decide))
      refine phx_run (.bool true) ?_ (Below.refl _ _) rfl
      clear hb hdep hold
      go_simp
    intro x w1 hT hall
    have x0e : x 0 = .agg #[.bool b1, .slice A n c] := hall 0 (by decide)
    have x1e : x 1 = .int .i64 lo := hall 1 (by decide)
    have x2e : x 2 = .agg #[.bool b1, .slice A n c] := hall 2 (by decide)
    have x3e : x 3 = .int .i64 hi := hall 3 (by decide)
    have x4e : x 4 = .bool true := hall 4 (by decide)
    have x5e : x 5 = .bool true := hall 5 (by decide)
    have x6e : x 6 = .int .i64 cv0 := hall 6 (by decide)
    have x7e : x 7 = .bool true := hall 7 (by decide)
    have x8e : x 8 = .bool true := hall 8 (by decide)
    have x9e : x 9 = undef := hall 9 (by decide)
    have x10e : x 10 = undef := hall 10 (by decide)
    have x11e : x 11 = .bool true := hall 11 (by decide)
    have x12e : x 12 = .bool true := hall 12 (by decide)
    have x13e : x 13 = .bool true := hall 13 (by decide)
    simp only [putAll, dstOf, Act.put, List.map_cons, List.map_nil, List.setIfInBounds_toArray, List.set_cons_succ, List.set_cons_zero, Nat.reduceAdd, x0e, x1e, x2e, x3e, x4e, x5e, x6e, x7e, x8e, x9e, x10e, x11e, x12e, x13e]
    clear x0e x1e x2e x3e x4e x5e x6e x7e x8e x9e x10e x11e x12e x13e hall
    have HB4 := Lib.hid (HB3.out.trans (hT.mono HB3.out.size))
    clear hT
    go_wp2_with fail
    go_ret
    exact ⟨by rw [HU.out]; rfl, HB4.out⟩
  have HZ1 := Lib.hid (show (cv0 == 1) = false from beq_eq_false_iff_ne.2 h2)
  by_cases h3 : cv0 = -1
  · have HZ2 := Lib.hid (show (cv0 == -1) = true from beq_iff_eq.2 h3)
    have HU := Lib.hid (show U = true from by rw [HU0.out]; exact decide_eq_true ⟨h1, .inr h3⟩)
    clear h1 h2 h3
    go_enter Tryz.func40, Tryz.ntmps40
    go_upto_region 1 with fail
    generalize w.alloc (.cells #[.bool b1, .slice A n c] 38) = w3 at hW ⊢
    obtain ⟨q1, hb3⟩ := hW w3 rfl
    have Q1 := Lib.hid q1
    have HB3 := Lib.hid hb3
    clear hW q1 hb3
    refine wp_region_phy (fun a b => Below a.heap.size a b) (fun h k => h.trans (k.mono h.size)) ((Below.refl _ _).drew) (by kernel_rfl) (by kernel_rfl) (by kernel_rfl) (by kernel_rfl) (phiT (fun i => ([some (.agg #[.bool b1, .slice A n c]), some (.agg #[.bool b1, .slice A n c]), some (.int .i64 lo), some (.int .i64 cv0), some (.int .i64 cv0)] : List (Option Value)).getD i none) (fun i v w => True)) (fun i v w w' h hb => ?_) ⟨?_, ?_, ?_, ?_, ?_, trivial⟩ ?_
    · unfold phiT at h ⊢
      split
      · next u hu => rw [hu] at h; exact h
      · next hu =>
        rw [hu] at h
        exact True.intro
    · intro x w1 bA hT hdep hold hb
      refine .inl ⟨trivial, ?_⟩
      have e1 : bA.tmps[1]?.getD undef = .pointer (some ⟨w.heap.size, 0, none⟩) := hb 1
      have cc0 := (Q1.out.below hT Q1.out.lt).cell 0
      have cc1 := (Q1.out.below hT Q1.out.lt).cell 1
      refine phx_run (.agg #[.bool b1, .slice A n c]) ?_ (Below.refl _ _) rfl
      clear hb hdep hold
      go_simp
    · intro x w1 bA hT hdep hold hb
      refine .inl ⟨trivial, ?_⟩
      have e1 : bA.tmps[1]?.getD undef = .pointer (some ⟨w.heap.size, 0, none⟩) := hb 1
      have cc0 := (Q1.out.below hT Q1.out.lt).cell 0
      have cc1 := (Q1.out.below hT Q1.out.lt).cell 1
      refine phx_run (.agg #[.bool b1, .slice A n c]) ?_ (Below.refl _ _) rfl
      clear hb hdep hold
      go_simp
    · intro x w1 bA hT hdep hold hb
      refine .inl ⟨trivial, ?_⟩
      have e5 : bA.tmps[5]?.getD undef = .agg #[.bool b1, .slice A n c] := (hb 5).trans (hdep 1 (by decide))
      refine phx_call ?_ ((HLO.out w1 (HB3.out.trans (hT.mono HB3.out.size))).mono fun e w' h => ⟨_, h.1, h.2, rfl⟩)
      clear hb hdep hold
      go_simp
    · intro x w1 bA hT hdep hold hb
      refine .inl ⟨trivial, ?_⟩
      have e4 : bA.tmps[4]?.getD undef = .agg #[.bool b1, .slice A n c] := (hb 4).trans (hdep 0 (by decide))
      have e6 : bA.tmps[6]?.getD undef = .int .i64 lo := (hb 6).trans (hdep 2 (by decide))
      refine phx_call ?_ ((HCO.out w1 (HB3.out.trans (hT.mono HB3.out.size))).mono fun e w' h => ⟨_, h.1, h.2, rfl⟩)
      clear hb hdep hold
      go_simp
    · intro x w1 bA hT hdep hold hb
      refine .inl ⟨trivial, ?_⟩
      have e7 : bA.tmps[7]?.getD undef = .int .i64 cv0 := (hb 7).trans (hdep 3 (by decide))
      refine phx_run (.int .i64 cv0) ?_ (Below.refl _ _) rfl
      clear hb hdep hold
      go_simp
    intro x w1 hT hall
    have x0e : x 0 = .agg #[.bool b1, .slice A n c] := hall 0 (by decide)
    have x1e : x 1 = .agg #[.bool b1, .slice A n c] := hall 1 (by decide)
    have x2e : x 2 = .int .i64 lo := hall 2 (by decide)
    have x3e : x 3 = .int .i64 cv0 := hall 3 (by decide)
    have x4e : x 4 = .int .i64 cv0 := hall 4 (by decide)
    simp only [putAll, dstOf, Act.put, List.map_cons, List.map_nil, List.setIfInBounds_toArray, List.set_cons_succ, List.set_cons_zero, Nat.reduceAdd, x0e, x1e, x2e, x3e, x4e]
    clear x0e x1e x2e x3e x4e hall
    have Q2 := Lib.hid (Q1.out.below hT Q1.out.lt)
    have HB4 := Lib.hid (HB3.out.trans (hT.mono HB3.out.size))
    clear Q1 HB3 hT
    generalize w1 = w4 at *
    have Q1 := Lib.hid Q2.out
    have HB3 := Lib.hid HB4.out
    clear Q2 HB4
    go_wp2_with fail
    refine wp_region_phy (fun a b => Below a.heap.size a b) (fun h k => h.trans (k.mono h.size)) ((Below.refl _ _).drew) (by kernel_rfl) (by kernel_rfl) (by kernel_rfl) (by kernel_rfl) (phiT (fun i => ([some (.agg #[.bool b1, .slice A n c]), some (.int .i64 lo), some (.agg #[.bool b1, .slice A n c]), some (.int .i64 hi), some (.bool true), some (.bool true), some (.int .i64 cv0), some (.bool false), some (.bool false), some (.int .i64 cv0), some (.bool true), some (.bool true), some (.bool true), some (.bool true)] : List (Option Value)).getD i none) (fun i v w => True)) (fun i v w w' h hb => ?_) ⟨?_, ?_, ?_, ?_, ?_, ?_, ?_, ?_, ?_, ?_, ?_, ?_, ?_, ?_, trivial⟩ ?_
    · unfold phiT at h ⊢
      split
      · next u hu => rw [hu] at h; exact h
      · next hu =>
        rw [hu] at h
        exact True.intro
    · intro x w1 bA hT hdep hold hb
      refine .inl ⟨trivial, ?_⟩
      have e1 : bA.tmps[1]?.getD undef = .pointer (some ⟨w.heap.size, 0, none⟩) := hb 1
      have cc0 := (Q1.out.below hT Q1.out.lt).cell 0
      have cc1 := (Q1.out.below hT Q1.out.lt).cell 1
      refine phx_run (.agg #[.bool b1, .slice A n c]) ?_ (Below.refl _ _) rfl
      clear hb hdep hold
      go_simp
    · intro x w1 bA hT hdep hold hb
      refine .inl ⟨trivial, ?_⟩
      have e8 : bA.tmps[8]?.getD undef = .agg #[.bool b1, .slice A n c] := (hb 8).trans (hdep 0 (by decide))
      refine phx_call ?_ ((HLO.out w1 (HB3.out.trans (hT.mono HB3.out.size))).mono fun e w' h => ⟨_, h.1, h.2, rfl⟩)
      clear hb hdep hold
      go_simp
    · intro x w1 bA hT hdep hold hb
      refine .inl ⟨trivial, ?_⟩
      have e1 : bA.tmps[1]?.getD undef = .pointer (some ⟨w.heap.size, 0, none⟩) := hb 1
      have cc0 := (Q1.out.below hT Q1.out.lt).cell 0
      have cc1 := (Q1.out.below hT Q1.out.lt).cell 1
      refine phx_run (.agg #[.bool b1, .slice A n c]) ?_ (Below.refl _ _) rfl
      clear hb hdep hold
      go_simp
    · intro x w1 bA hT hdep hold hb
      refine .inl ⟨trivial, ?_⟩
      have e10 : bA.tmps[10]?.getD undef = .agg #[.bool b1, .slice A n c] := (hb 10).trans (hdep 2 (by decide))
      refine phx_call ?_ ((HHI.out w1 (HB3.out.trans (hT.mono HB3.out.size))).mono fun e w' h => ⟨_, h.1, h.2, rfl⟩)
      clear hb hdep hold
      go_simp
    · intro x w1 bA hT hdep hold hb
      refine .inl ⟨trivial, ?_⟩
      have e9 : bA.tmps[9]?.getD undef = .int .i64 lo := (hb 9).trans (hdep 1 (by decide))
      have e11 : bA.tmps[11]?.getD undef = .int .i64 hi := (hb 11).trans (hdep 3 (by decide))
      have zz := HZ.out
      refine phx_run (.bool true) ?_ (Below.refl _ _) rfl
      clear hb hdep hold
      go_simp
    · intro x w1 bA hT hdep hold hb
      refine .inl ⟨trivial, ?_⟩
      have e12 : bA.tmps[12]?.getD undef = .bool true := (hb 12).trans (hdep 4 (by decide))
      refine phx_run (.bool true) ?_ (Below.refl _ _) rfl
      clear hb hdep hold
      go_simp
    · intro x w1 bA hT hdep hold hb
      refine .inl ⟨⟨13, rfl, (hb 13).trans (hdep 5 (by decide))⟩, ?_⟩
      have e3 : bA.tmps[3]?.getD undef = .int .i64 cv0 := hb 3
      refine phx_run (.int .i64 cv0) ?_ (Below.refl _ _) rfl
      clear hb hdep hold
      go_simp
    · intro x w1 bA hT hdep hold hb
      refine .inl ⟨⟨13, rfl, (hb 13).trans (hdep 5 (by decide))⟩, ?_⟩
      have e14 : bA.tmps[14]?.getD undef = .int .i64 cv0 := (hb 14).trans (hdep 6 (by decide))
      have zz := HZ1.out
      refine phx_run (.bool false) ?_ (Below.refl _ _) rfl
      clear hb hdep hold
      go_simp
    · intro x w1 bA hT hdep hold hb
      refine .inl ⟨⟨13, rfl, (hb 13).trans (hdep 5 (by decide))⟩, ?_⟩
      have e15 : bA.tmps[15]?.getD undef = .bool false := (hb 15).trans (hdep 7 (by decide))
      refine phx_run (.bool false) ?_ (Below.refl _ _) rfl
      clear hb hdep hold
      go_simp
    · intro x w1 bA hT hdep hold hb
      refine .inl ⟨⟨16, rfl, (hb 16).trans (hdep 8 (by decide))⟩, ?_⟩
      have e3 : bA.tmps[3]?.getD undef = .int .i64 cv0 := hb 3
      refine phx_run (.int .i64 cv0) ?_ (Below.refl _ _) rfl
      clear hb hdep hold
      go_simp
    · intro x w1 bA hT hdep hold hb
      refine .inl ⟨⟨16, rfl, (hb 16).trans (hdep 8 (by decide))⟩, ?_⟩
      have e17 : bA.tmps[17]?.getD undef = .int .i64 cv0 := (hb 17).trans (hdep 9 (by decide))
      have zz := HZ2.out
      refine phx_run (.bool true) ?_ (Below.refl _ _) rfl
      clear hb hdep hold
      go_simp
    · intro x w1 bA hT hdep hold hb
      refine .inl ⟨⟨13, rfl, (hb 13).trans (hdep 5 (by decide))⟩, ?_⟩
      have e16 : bA.tmps[16]?.getD undef = .bool false := (hb 16).trans (hdep 8 (by decide))
      have e18 : bA.tmps[18]?.getD undef = .bool true := (hb 18).trans (hdep 10 (by decide))
      refine phx_run (.bool true) ?_ (Below.refl _ _) rfl
      clear hb hdep hold
      go_simp
    · intro x w1 bA hT hdep hold hb
      refine .inl ⟨trivial, ?_⟩
      have e13 : bA.tmps[13]?.getD undef = .bool true := (hb 13).trans (hdep 5 (by decide))
      have e19 : bA.tmps[19]?.getD undef = .bool true := (hb 19).trans (hdep 11 (by decide))
      refine phx_run (.bool true) ?_ (Below.refl _ _) rfl
      clear hb hdep hold
      go_simp
    · intro x w1 bA hT hdep hold hb
      refine .inl ⟨trivial, ?_⟩
      have e20 : bA.tmps[20]?.getD undef = .bool true := (hb 20).trans (hdep 12 (by decide))
      refine phx_run (.bool true) ?_ (Below.refl _ _) rfl
      clear hb hdep hold
      go_simp
    intro x w1 hT hall
    have x0e : x 0 = .agg #[.bool b1, .slice A n c] := hall 0 (by decide)
    have x1e : x 1 = .int .i64 lo := hall 1 (by decide)
    have x2e : x 2 = .agg #[.bool b1, .slice A n c] := hall 2 (by decide)
    have x3e : x 3 = .int .i64 hi := hall 3 (by decide)
    have x4e : x 4 = .bool true := hall 4 (by decide)
    have x5e : x 5 = .bool true := hall 5 (by decide)
    have x6e : x 6 = .int .i64 cv0 := hall 6 (by decide)
    have x7e : x 7 = .bool false := hall 7 (by decide)
    have x8e : x 8 = .bool false := hall 8 (by decide)
    have x9e : x 9 = .int .i64 cv0 := hall 9 (by decide)
    have x10e : x 10 = .bool true := hall 10 (by decide)
    have x11e : x 11 = .bool true := hall 11 (by decide)
    have x12e : x 12 = .bool true := hall 12 (by decide)
    have x13e : x 13 = .bool true := hall 13 (by decide)
    simp only [putAll, dstOf, Act.put, List.map_cons, List.map_nil, List.setIfInBounds_toArray, List.set_cons_succ, List.set_cons_zero, Nat.reduceAdd, x0e, x1e, x2e, x3e, x4e, x5e, x6e, x7e, x8e, x9e, x10e, x11e, x12e, x13e]
    clear x0e x1e x2e x3e x4e x5e x6e x7e x8e x9e x10e x11e x12e x13e hall
    have HB4 := Lib.hid (HB3.out.trans (hT.mono HB3.out.size))
    clear hT
    go_wp2_with fail
    go_ret
    exact ⟨by rw [HU.out]; rfl, HB4.out⟩
  · have HZ2 := Lib.hid (show (cv0 == -1) = false from beq_eq_false_iff_ne.2 h3)
    have HU := Lib.hid (show U = false from by rw [HU0.out]; exact decide_eq_false fun h => h.2.elim h2 h3)
    clear h1 h2 h3
    go_enter Tryz.func40, Tryz.ntmps40
    go_upto_region 1 with fail
    generalize w.alloc (.cells #[.bool b1, .slice A n c] 38) = w3 at hW ⊢
    obtain ⟨q1, hb3⟩ := hW w3 rfl
    have Q1 := Lib.hid q1
    have HB3 := Lib.hid hb3
    clear hW q1 hb3
    refine wp_region_phy (fun a b => Below a.heap.size a b) (fun h k => h.trans (k.mono h.size)) ((Below.refl _ _).drew) (by kernel_rfl) (by kernel_rfl) (by kernel_rfl) (by kernel_rfl) (phiT (fun i => ([some (.agg #[.bool b1, .slice A n c]), some (.agg #[.bool b1, .slice A n c]), some (.int .i64 lo), some (.int .i64 cv0), some (.int .i64 cv0)] : List (Option Value)).getD i none) (fun i v w => True)) (fun i v w w' h hb => ?_) ⟨?_, ?_, ?_, ?_, ?_, trivial⟩ ?_
    · unfold phiT at h ⊢
      split
      · next u hu => rw [hu] at h; exact h
      · next hu =>
        rw [hu] at h
        exact True.intro
    · intro x w1 bA hT hdep hold hb
      refine .inl ⟨trivial, ?_⟩
      have e1 : bA.tmps[1]?.getD undef = .pointer (some ⟨w.heap.size, 0, none⟩) := hb 1
      have cc0 := (Q1.out.below hT Q1.out.lt).cell 0
      have cc1 := (Q1.out.below hT Q1.out.lt).cell 1
      refine phx_run (.agg #[.bool b1, .slice A n c]) ?_ (Below.refl _ _) rfl
      clear hb hdep hold
      go_simp
    · intro x w1 bA hT hdep hold hb
      refine .inl ⟨trivial, ?_⟩
      have e1 : bA.tmps[1]?.getD undef = .pointer (some ⟨w.heap.size, 0, none⟩) := hb 1
      have cc0 := (Q1.out.below hT Q1.out.lt).cell 0
      have cc1 := (Q1.out.below hT Q1.out.lt).cell 1
      refine phx_run (.agg #[.bool b1, .slice A n c]) ?_ (Below.refl _ _) rfl
      clear hb hdep hold
      go_simp
    · intro x w1 bA hT hdep hold hb
      refine .inl ⟨trivial, ?_⟩
      have e5 : bA.tmps[5]?.getD undef = .agg #[.bool b1, .slice A n c] := (hb 5).trans (hdep 1 (by decide))
      refine phx_call ?_ ((HLO.out w1 (HB3.out.trans (hT.mono HB3.out.size))).mono fun e w' h => ⟨_, h.1, h.2, rfl⟩)
      clear hb hdep hold
      go_simp
    · intro x w1 bA hT hdep hold hb
      refine .inl ⟨trivial, ?_⟩
      have e4 : bA.tmps[4]?.getD undef = .agg #[.bool b1, .slice A n c] := (hb 4).trans (hdep 0 (by decide))
      have e6 : bA.tmps[6]?.getD undef = .int .i64 lo := (hb 6).trans (hdep 2 (by decide))
      refine phx_call ?_ ((HCO.out w1 (HB3.out.trans (hT.mono HB3.out.size))).mono fun e w' h => ⟨_, h.1, h.2, rfl⟩)
      clear hb hdep hold
      go_simp
    · intro x w1 bA hT hdep hold hb
      refine .inl ⟨trivial, ?_⟩
      have e7 : bA.tmps[7]?.getD undef = .int .i64 cv0 := (hb 7).trans (hdep 3 (by decide))
      refine phx_run (.int .i64 cv0) ?_ (Below.refl _ _) rfl
      clear hb hdep hold
      go_simp
    intro x w1 hT hall
    have x0e : x 0 = .agg #[.bool b1, .slice A n c] := hall 0 (by decide)
    have x1e : x 1 = .agg #[.bool b1, .slice A n c] := hall 1 (by decide)
    have x2e : x 2 = .int .i64 lo := hall 2 (by decide)
    have x3e : x 3 = .int .i64 cv0 := hall 3 (by decide)
    have x4e : x 4 = .int .i64 cv0 := hall 4 (by decide)
    simp only [putAll, dstOf, Act.put, List.map_cons, List.map_nil, List.setIfInBounds_toArray, List.set_cons_succ, List.set_cons_zero, Nat.reduceAdd, x0e, x1e, x2e, x3e, x4e]
    clear x0e x1e x2e x3e x4e hall
    have Q2 := Lib.hid (Q1.out.below hT Q1.out.lt)
    have HB4 := Lib.hid (HB3.out.trans (hT.mono HB3.out.size))
    clear Q1 HB3 hT
    generalize w1 = w4 at *
    have Q1 := Lib.hid Q2.out
    have HB3 := Lib.hid HB4.out
    clear Q2 HB4
    go_wp2_with fail
    refine wp_region_phy (fun a b => Below a.heap.size a b) (fun h k => h.trans (k.mono h.size)) ((Below.refl _ _).drew) (by kernel_rfl) (by kernel_rfl) (by kernel_rfl) (by kernel_rfl) (phiT (fun i => ([some (.agg #[.bool b1, .slice A n c]), some (.int .i64 lo), some (.agg #[.bool b1, .slice A n c]), some (.int .i64 hi), some (.bool true), some (.bool true), some (.int .i64 cv0), some (.bool false), some (.bool false), some (.int .i64 cv0), some (.bool false), some (.bool false), some (.bool false), some (.bool false)] : List (Option Value)).getD i none) (fun i v w => True)) (fun i v w w' h hb => ?_) ⟨?_, ?_, ?_, ?_, ?_, ?_, ?_, ?_, ?_, ?_, ?_, ?_, ?_, ?_, trivial⟩ ?_
    · unfold phiT at h ⊢
      split
      · next u hu => rw [hu] at h; exact h
      · next hu =>
        rw [hu] at h
        exact True.intro
    · intro x w1 bA hT hdep hold hb
      refine .inl ⟨trivial, ?_⟩
      have e1 : bA.tmps[1]?.getD undef = .pointer (some ⟨w.heap.size, 0, none⟩) := hb 1
      have cc0 := (Q1.out.below hT Q1.out.lt).cell 0
      have cc1 := (Q1.out.below hT Q1.out.lt).cell 1
      refine phx_run (.agg #[.bool b1, .slice A n c]) ?_ (Below.refl _ _) rfl
      clear hb hdep hold
      go_simp
    · intro x w1 bA hT hdep hold hb
      refine .inl ⟨trivial, ?_⟩
      have e8 : bA.tmps[8]?.getD undef = .agg #[.bool b1, .slice A n c] := (hb 8).trans (hdep 0 (by decide))
      refine phx_call ?_ ((HLO.out w1 (HB3.out.trans (hT.mono HB3.out.size))).mono fun e w' h => ⟨_, h.1, h.2, rfl⟩)
      clear hb hdep hold
      go_simp
    · intro x w1 bA hT hdep hold hb
      refine .inl ⟨trivial, ?_⟩
      have e1 : bA.tmps[1]?.getD undef = .pointer (some ⟨w.heap.size, 0, none⟩) := hb 1
      have cc0 := (Q1.out.below hT Q1.out.lt).cell 0
      have cc1 := (Q1.out.below hT Q1.out.lt).cell 1
      refine phx_run (.agg #[.bool b1, .slice A n c]) ?_ (Below.refl _ _) rfl
      clear hb hdep hold
      go_simp
    · intro x w1 bA hT hdep hold hb
      refine .inl ⟨trivial, ?_⟩
      have e10 : bA.tmps[10]?.getD undef = .agg #[.bool b1, .slice A n c] := (hb 10).trans (hdep 2 (by decide))
      refine phx_call ?_ ((HHI.out w1 (HB3.out.trans (hT.mono HB3.out.size))).mono fun e w' h => ⟨_, h.1, h.2, rfl⟩)
      clear hb hdep hold
      go_simp
    · intro x w1 bA hT hdep hold hb
      refine .inl ⟨trivial, ?_⟩
      have e9 : bA.tmps[9]?.getD undef = .int .i64 lo := (hb 9).trans (hdep 1 (by decide))
      have e11 : bA.tmps[11]?.getD undef = .int .i64 hi := (hb 11).trans (hdep 3 (by decide))
      have zz := HZ.out
      refine phx_run (.bool true) ?_ (Below.refl _ _) rfl
      clear hb hdep hold
      go_simp
    · intro x w1 bA hT hdep hold hb
      refine .inl ⟨trivial, ?_⟩
      have e12 : bA.tmps[12]?.getD undef = .bool true := (hb 12).trans (hdep 4 (by decide))
      refine phx_run (.bool true) ?_ (Below.refl _ _) rfl
      clear hb hdep hold
      go_simp
    · intro x w1 bA hT hdep hold hb
      refine .inl ⟨⟨13, rfl, (hb 13).trans (hdep 5 (by decide))⟩, ?_⟩
      have e3 : bA.tmps[3]?.getD undef = .int .i64 cv0 := hb 3
      refine phx_run (.int .i64 cv0) ?_ (Below.refl _ _) rfl
      clear hb hdep hold
      go_simp
    · intro x w1 bA hT hdep hold hb
      refine .inl ⟨⟨13, rfl, (hb 13).trans (hdep 5 (by decide))⟩, ?_⟩
      have e14 : bA.tmps[14]?.getD undef = .int .i64 cv0 := (hb 14).trans (hdep 6 (by decide))
      have zz := HZ1.out
      refine phx_run (.bool false) ?_ (Below.refl _ _) rfl
      clear hb hdep hold
      go_simp
    · intro x w1 bA hT hdep hold hb
      refine .inl ⟨⟨13, rfl, (hb 13).trans (hdep 5 (by decide))⟩, ?_⟩
      have e15 : bA.tmps[15]?.getD undef = .bool false := (hb 15).trans (hdep 7 (by decide))
      refine phx_run (.bool false) ?_ (Below.refl _ _) rfl
      clear hb hdep hold
      go_simp
    · intro x w1 bA hT hdep hold hb
      refine .inl ⟨⟨16, rfl, (hb 16).trans (hdep 8 (by decide))⟩, ?_⟩
      have e3 : bA.tmps[3]?.getD undef = .int .i64 cv0 := hb 3
      refine phx_run (.int .i64 cv0) ?_ (Below.refl _ _) rfl
      clear hb hdep hold
      go_simp
    · intro x w1 bA hT hdep hold hb
      refine .inl ⟨⟨16, rfl, (hb 16).trans (hdep 8 (by decide))⟩, ?_⟩
      have e17 : bA.tmps[17]?.getD undef = .int .i64 cv0 := (hb 17).trans (hdep 9 (by decide))
      have zz := HZ2.out
      refine phx_run (.bool false) ?_ (Below.refl _ _) rfl
      clear hb hdep hold
      go_simp
    · intro x w1 bA hT hdep hold hb
      refine .inl ⟨⟨13, rfl, (hb 13).trans (hdep 5 (by decide))⟩, ?_⟩
      have e16 : bA.tmps[16]?.getD undef = .bool false := (hb 16).trans (hdep 8 (by decide))
      have e18 : bA.tmps[18]?.getD undef = .bool false := (hb 18).trans (hdep 10 (by decide))
      refine phx_run (.bool false) ?_ (Below.refl _ _) rfl
      clear hb hdep hold
      go_simp
    · intro x w1 bA hT hdep hold hb
      refine .inl ⟨trivial, ?_⟩
      have e13 : bA.tmps[13]?.getD undef = .bool true := (hb 13).trans (hdep 5 (by decide))
      have e19 : bA.tmps[19]?.getD undef = .bool false := (hb 19).trans (hdep 11 (by decide))
      refine phx_run (.bool false) ?_ (Below.refl _ _) rfl
      clear hb hdep hold
      go_simp
    · intro x w1 bA hT hdep hold hb
      refine .inl ⟨trivial, ?_⟩
      have e20 : bA.tmps[20]?.getD undef = .bool false := (hb 20).trans (hdep 12 (by decide))
      refine phx_run (.bool false) ?_ (Below.refl _ _) rfl
      clear hb hdep hold
      go_simp
    intro x w1 hT hall
    have x0e : x 0 = .agg #[.bool b1, .slice A n c] := hall 0 (by decide)
    have x1e : x 1 = .int .i64 lo := hall 1 (by decide)
    have x2e : x 2 = .agg #[.bool b1, .slice A n c] := hall 2 (by decide)
    have x3e : x 3 = .int .i64 hi := hall 3 (by decide)
    have x4e : x 4 = .bool true := hall 4 (by decide)
    have x5e : x 5 = .bool true := hall 5 (by decide)
    have x6e : x 6 = .int .i64 cv0 := hall 6 (by decide)
    have x7e : x 7 = .bool false := hall 7 (by decide)
    have x8e : x 8 = .bool false := hall 8 (by decide)
    have x9e : x 9 = .int .i64 cv0 := hall 9 (by decide)
    have x10e : x 10 = .bool false := hall 10 (by decide)
    have x11e : x 11 = .bool false := hall 11 (by decide)
    have x12e : x 12 = .bool false := hall 12 (by decide)
    have x13e : x 13 = .bool false := hall 13 (by decide)
    simp only [putAll, dstOf, Act.put, List.map_cons, List.map_nil, List.setIfInBounds_toArray, List.set_cons_succ, List.set_cons_zero, Nat.reduceAdd, x0e, x1e, x2e, x3e, x4e, x5e, x6e, x7e, x8e, x9e, x10e, x11e, x12e, x13e]
    clear x0e x1e x2e x3e x4e x5e x6e x7e x8e x9e x10e x11e x12e x13e hall
    have HB4 := Lib.hid (HB3.out.trans (hT.mono HB3.out.size))
    clear hT
    go_wp2_with fail
    go_ret
    exact ⟨by rw [HU.out]; rfl, HB4.out⟩
end Go.Proofs.YtbfggncmjdhapaaGreatDoor
