/- The reference's In and before (layer 45). -/
import Derived.Test.YteliflcbegcdlaaGreatDoorWwRcl
import Derived.Test.YteliflcbegcdlaaGreatDoorWwTwo
import Derived.Test.YteliflcbegcdlaaGreatDoorWwGrf
namespace Go.Proofs.YteliflcbegcdlaaGreatDoor
open Go.RowKit Go.Shelf
set_option linter.unusedVariables false
theorem mem_drop_step {gs : List Gd} {k : Nat} {g : Gd} (h : k < gs.length) : decide (g ∈ gs.drop k) = (decide (gs[k] = g) || decide (g ∈ gs.drop (k + 1))) := by
  rw [List.drop_eq_getElem_cons h]
  by_cases e : gs[k] = g
  · simp [e]
  · have : ¬ g = gs[k] := fun h => e h.symm
    simp only [List.mem_cons, this, false_or, e, decide_false, Bool.false_or]
set_option maxHeartbeats 2000000 in
set_option maxRecDepth 100000 in
theorem refIn_any (Al : Option Addr) (nl cl : Nat) (gs : List Gd) (vx vo : Value) (X O : List Int) (w : World) (hg : Gds w (.slice Al nl cl) gs) (hgl : gs.length ≤ 1000000000) (hgb : ∀ h ∈ gs, h.1.length ≤ 1000 ∧ h.2.length ≤ 1000) (hX : Ints w vx X) (hO : Ints w vo O) (lX : X.length ≤ 1000) (lO : O.length ≤ 1000) :
    Calls Tryz.prog 25 #[.slice Al nl cl, .agg #[vx, vo]] w fun e w' => e = .returned (.bool (decide (((X, O) : Gd) ∈ gs))) ∧ Below w.heap.size w w' := by
  obtain rfl := hg.len
  have HX := Lib.hid (fun W (hb : Below w.heap.size w W) => hX.below hb)
  have HO := Lib.hid (fun W (hb : Below w.heap.size w W) => hO.below hb)
  obtain ⟨A, c, rfl, -, -⟩ := hX
  obtain ⟨A2, c2, rfl, -, -⟩ := hO
  go_enter Tryz.func25, Tryz.ntmps25
  go_wp2_with fail
  have hal := (Below.refl w.heap.size w).alloc (Nat.le_refl _) (.cells #[.slice A X.length c, .slice A2 O.length c2] 24)
  have HQ1 := Lib.hid (heap_box (w := w) (t := 24) (a := .slice A X.length c) (b := .slice A2 O.length c2) w.heap.size rfl)
  have HB1 := Lib.hid hal
  generalize w.alloc (.cells #[.slice A X.length c, .slice A2 O.length c2] 24) = w1 at HB1 HQ1 ⊢
  obtain ⟨n0, hn0⟩ : ∃ n, n = w.heap.size := ⟨_, rfl⟩
  rw [← hn0] at HQ1 HB1 HX HO ⊢
  have HN0 := Lib.hid hn0
  clear hn0 hal
  have hG0 := hg
  go_loopw [5] (fun i wr => ∃ k : Nat, k ≤ gs.length ∧ i = .int .i64 k ∧ Hid (Below n0 w wr) ∧ Hid (Arr wr n0 24 [.slice A X.length c, .slice A2 O.length c2]) ∧ Hid (decide (((X, O) : Gd) ∈ gs) = decide (((X, O) : Gd) ∈ gs.drop k))) (fun i _ => gs.length - (intOf i).toNat)
  case atStart => exact ⟨0, Nat.zero_le _, rfl, HB1, HQ1, Lib.hid rfl⟩
  case round =>
    clear HB1 HQ1
    obtain ⟨k, hk, rfl, HB, HQ, HD⟩ := hrel
    by_cases hlt : k < gs.length
    · obtain ⟨b, o, A0, m0, c0, A1, m1, c1, rfl, hbl, y0, y1, hq⟩ := hG0.at_ hlt
      have hbw : Below w.heap.size w wr := by rw [← HN0.out]; exact HB.out
      have y0 := (hbw.cell (p := ⟨b, o + k * 2, none⟩) hbl).trans y0
      have y1 := (hbw.cell (p := ⟨b, o + k * 2 + 1, none⟩) hbl).trans y1
      have hm := hgb _ (List.getElem_mem hlt)
      have hq1 : Ints wr (.slice A0 m0 c0) gs[k].1 := hq.1.below hbw
      have hq2 : Ints wr (.slice A1 m1 c1) gs[k].2 := hq.2.below hbw
      have HS0 := Lib.hid (fun W (hb : Below wr.heap.size wr W) => refSame_any (.slice A0 m0 c0) (.slice A1 m1 c1) (.slice A X.length c) (.slice A2 O.length c2) gs[k].1 gs[k].2 X O W (hq1.below hb) (hq2.below hb) (HX.out W (HB.out.trans (hb.mono (by have := HQ.out.lt; omega)))) (HO.out W (HB.out.trans (hb.mono (by have := HQ.out.lt; omega)))) hm.1 hm.2 lX lO)
      have hd := HD.out
      rw [mem_drop_step hlt] at hd
      obtain ⟨bb, hbb⟩ : ∃ b, b = decide (gs[k] = ((X, O) : Gd)) := ⟨_, rfl⟩
      rw [← hbb] at hd
      have HSM := Lib.hid (fun W (hb : Below wr.heap.size wr W) => (HS0.out W hb).mono fun e w' (h : _ ∧ _) => show e = .returned (.bool bb) ∧ Below W.heap.size W w' from ⟨by rw [h.1, hbb], h.2⟩)
      have HD2 := Lib.hid hd
      clear hd hbb HD HS0 hq hq1 hq2 hm hbl hG0 hg hbw hgb
      have z1 : (k : Int) < (gs.length : Int) := by omega
      have z2 : IntKind.i64.wrap ((k : Int) + 1) = (k : Int) + 1 := IntWalk.i64_in _ (by omega)
      go_upto_region 4 with fail
      refine wp_region_phy (fun a b => Below a.heap.size a b) (fun h k => h.trans (k.mono h.size)) ((Below.refl _ _).drew) (by kernel_rfl) (by kernel_rfl) (by kernel_rfl) (by kernel_rfl) (phiT (fun i => ([some (.slice (some ⟨b, o, none⟩) gs.length cl), some (.int .i64 (k : Int)), some (.pointer (some ⟨b, o + k * 2, none⟩)), some (.agg #[.slice A0 m0 c0, .slice A1 m1 c1]), some (.agg #[.slice A X.length c, .slice A2 O.length c2]), some (.bool bb)] : List (Option Value)).getD i none) (fun i v w => True)) (fun i v w w' h hb => ?_) ⟨?_, ?_, ?_, ?_, ?_, ?_, trivial⟩ ?_
      · unfold phiT at h ⊢
        split
        · next u hu => rw [hu] at h; exact h
        · next hu =>
          rw [hu] at h
          exact True.intro
      · intro x w1 bA hT hdep hold hb
        refine .inl ⟨trivial, ?_⟩
        have e0 : bA.tmps[0]?.getD undef = .slice (some ⟨b, o, none⟩) gs.length cl := hb 0
        refine phx_run (.slice (some ⟨b, o, none⟩) gs.length cl) ?_ (Below.refl _ _) rfl
        clear hb hdep hold
        go_simp
      · intro x w1 bA hT hdep hold hb
        refine .inl ⟨trivial, ?_⟩
        have e5 : bA.tmps[5]?.getD undef = .int .i64 (k : Int) := hb 5
        refine phx_run (.int .i64 (k : Int)) ?_ (Below.refl _ _) rfl
        clear hb hdep hold
        go_simp
      · intro x w1 bA hT hdep hold hb
        refine .inl ⟨trivial, ?_⟩
        have e12 : bA.tmps[12]?.getD undef = .slice (some ⟨b, o, none⟩) gs.length cl := (hb 12).trans (hdep 0 (by decide))
        have e13 : bA.tmps[13]?.getD undef = .int .i64 (k : Int) := (hb 13).trans (hdep 1 (by decide))
        refine phx_run (.pointer (some ⟨b, o + k * 2, none⟩)) ?_ (Below.refl _ _) rfl
        clear hb hdep hold
        go_simp
      · intro x w1 bA hT hdep hold hb
        refine .inl ⟨trivial, ?_⟩
        have e14 : bA.tmps[14]?.getD undef = .pointer (some ⟨b, o + k * 2, none⟩) := (hb 14).trans (hdep 2 (by decide))
        have cc0 := (hT.cell (p := ⟨b, o + k * 2, none⟩) (block_lt_of_cell y0)).trans y0
        have cc1 := (hT.cell (p := ⟨b, o + k * 2 + 1, none⟩) (block_lt_of_cell y1)).trans y1
        refine phx_run (.agg #[.slice A0 m0 c0, .slice A1 m1 c1]) ?_ (Below.refl _ _) rfl
        clear hb hdep hold
        go_simp
      · intro x w1 bA hT hdep hold hb
        refine .inl ⟨trivial, ?_⟩
        have e3 : bA.tmps[3]?.getD undef = .pointer (some ⟨n0, 0, none⟩) := hb 3
        have cc0 := (HQ.out.below hT HQ.out.lt).cell 0
        have cc1 := (HQ.out.below hT HQ.out.lt).cell 1
        refine phx_run (.agg #[.slice A X.length c, .slice A2 O.length c2]) ?_ (Below.refl _ _) rfl
        clear hb hdep hold
        go_simp
      · intro x w1 bA hT hdep hold hb
        refine .inl ⟨trivial, ?_⟩
        have e15 : bA.tmps[15]?.getD undef = .agg #[.slice A0 m0 c0, .slice A1 m1 c1] := (hb 15).trans (hdep 3 (by decide))
        have e16 : bA.tmps[16]?.getD undef = .agg #[.slice A X.length c, .slice A2 O.length c2] := (hb 16).trans (hdep 4 (by decide))
        refine phx_call ?_ ((HSM.out w1 hT).mono fun e w' h => ⟨_, h.1, h.2, rfl⟩)
        clear hb hdep hold
        go_simp
      intro x w1 hT hall
      have x0e : x 0 = .slice (some ⟨b, o, none⟩) gs.length cl := hall 0 (by decide)
      have x1e : x 1 = .int .i64 (k : Int) := hall 1 (by decide)
      have x2e : x 2 = .pointer (some ⟨b, o + k * 2, none⟩) := hall 2 (by decide)
      have x3e : x 3 = .agg #[.slice A0 m0 c0, .slice A1 m1 c1] := hall 3 (by decide)
      have x4e : x 4 = .agg #[.slice A X.length c, .slice A2 O.length c2] := hall 4 (by decide)
      have x5e : x 5 = .bool bb := hall 5 (by decide)
      simp only [putAll, dstOf, Act.put, List.map_cons, List.map_nil, List.setIfInBounds_toArray, List.set_cons_succ, List.set_cons_zero, Nat.reduceAdd, x0e, x1e, x2e, x3e, x4e, x5e]
      clear x0e x1e x2e x3e x4e x5e hall
      have HB5 := Lib.hid (HB.out.trans (hT.mono (by have := HQ.out.lt; omega)))
      have HQ5 := Lib.hid (HQ.out.below hT HQ.out.lt)
      clear hT HSM HB HQ y0 y1
      cases bb with
      | true =>
        have hr : decide (((X, O) : Gd) ∈ gs) = true := by rw [HD2.out]; rfl
        have HR := Lib.hid hr
        clear hr
        go_wp2_with fail
        go_ret
        exact ⟨by rw [HR.out]; rfl, by rw [← HN0.out]; exact HB5.out⟩
      | false =>
        have HD3 := Lib.hid (show decide (((X, O) : Gd) ∈ gs) = decide (((X, O) : Gd) ∈ gs.drop (k + 1)) by rw [HD2.out, Bool.false_or])
        clear HD2
        go_wp2_with fail
        go_roundw
        case rel => exact ⟨k + 1, by omega, by go_num, HB5, HQ5, HD3⟩
        case measure => simp [intOf]; omega
    · obtain rfl : k = gs.length := by omega
      have hr : decide (((X, O) : Gd) ∈ gs) = false := by rw [HD.out, List.drop_length]; rfl
      have HR := Lib.hid hr
      clear hr
      go_wp2_with fail
      go_ret
      exact ⟨by rw [HR.out]; rfl, by rw [← HN0.out]; exact HB.out⟩
/-- the order of classes -/
def befB (g h : Gd) : Bool := if g.1.length ≠ h.1.length then decide (g.1.length < h.1.length) else decide (cmpL (g.1 ++ g.2) (h.1 ++ h.2) < 0)
set_option maxHeartbeats 2000000 in
set_option maxRecDepth 100000 in
theorem before_any (va vb vc vd : Value) (X O Y R : List Int) (w : World) (hX : Ints w va X) (hO : Ints w vb O) (hY : Ints w vc Y) (hR : Ints w vd R) (l1 : X.length ≤ 1000) (l2 : O.length = X.length) (l3 : Y.length ≤ 1000) (l4 : R.length = Y.length) :
    Calls Tryz.prog 26 #[.agg #[va, vb], .agg #[vc, vd]] w fun e w' => e = .returned (.bool (befB (X, O) (Y, R))) ∧ Below w.heap.size w w' := by
  have HLS := Lib.hid (fun W (hb : Below w.heap.size w W) (e : Y.length = X.length) => refLess_any va vb vc vd X O Y R W (hX.below hb) (hO.below hb) (hY.below hb) (hR.below hb) l1 (by omega) e (by omega))
  clear l1 l2 l3 l4
  obtain ⟨A, c, rfl, -, -⟩ := hX
  obtain ⟨A1, c1, rfl, -, -⟩ := hO
  obtain ⟨A2, c2, rfl, -, -⟩ := hY
  obtain ⟨A3, c3, rfl, -, -⟩ := hR
  go_enter Tryz.func26, Tryz.ntmps26
  go_upto_region 1 with fail
  have hW : ∀ W, W = ((w.alloc (.cells #[.slice A X.length c, .slice A1 O.length c1] 24)).alloc (.cells #[.slice A2 Y.length c2, .slice A3 R.length c3] 24)) → Arr W w.heap.size 24 [.slice A X.length c, .slice A1 O.length c1] ∧ Arr W (w.heap.size + 1) 24 [.slice A2 Y.length c2, .slice A3 R.length c3] ∧ Below w.heap.size w W := by
    rintro W rfl
    exact ⟨(Arr.new _ _ [_, _]).alloc _, Arr.newAt (w.alloc _) _ [_, _] _ (by simp), ((Below.refl _ _).alloc (Nat.le_refl _) _).alloc (by simp) _⟩
  generalize ((w.alloc (.cells #[.slice A X.length c, .slice A1 O.length c1] 24)).alloc (.cells #[.slice A2 Y.length c2, .slice A3 R.length c3] 24)) = w2 at hW ⊢
  obtain ⟨q1, q2, hb2⟩ := hW w2 rfl
  clear hW
  have HB := Lib.hid hb2
  have y0 := q1.cell 0
  have y1 := q1.cell 1
  have y2 := q2.cell 0
  have y3 := q2.cell 1
  clear hb2
  by_cases he : X.length = Y.length
  · have HL2 := Lib.hid (HLS.out w2 HB.out he.symm)
    have hr : befB (X, O) (Y, R) = decide (cmpL (X ++ O) (Y ++ R) < 0) := by unfold befB; rw [if_neg (by simp [he])]
    have HR := Lib.hid hr
    generalize decide (cmpL (X ++ O) (Y ++ R) < 0) = bb at HL2 HR
    have z1 : ((X.length : Int) != (Y.length : Int)) = false := by simp [he]
    clear he HLS hr
    go_wp2_with (go_at_call 42; refine HL2.out.mono ?_; rintro e w7 ⟨rfl, hb7⟩)
    go_ret
    exact ⟨by rw [HR.out]; rfl, HB.out.trans (hb7.mono HB.out.size)⟩
  · have z1 : ((X.length : Int) != (Y.length : Int)) = true := by simp; omega
    have hr : befB (X, O) (Y, R) = decide (X.length < Y.length) := by unfold befB; rw [if_pos (by simpa using he)]
    have HR := Lib.hid hr
    clear HLS hr he
    go_wp2_with fail
    go_ret
    exact ⟨by rw [HR.out]; rfl, HB.out⟩
end Go.Proofs.YteliflcbegcdlaaGreatDoor
