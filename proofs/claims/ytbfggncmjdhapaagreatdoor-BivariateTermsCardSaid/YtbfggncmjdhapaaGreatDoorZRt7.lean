/- unravellaw13.is, where both are the same polynomial. -/
import Derived.Test.YtbfggncmjdhapaaGreatDoorZRt4
import Derived.Test.YtbfggncmjdhapaaGreatDoorZBco
import Derived.Test.YtbfggncmjdhapaaGreatDoorZBte
import Derived.Test.YtbfggncmjdhapaaGreatDoorZEnd
namespace Go.Proofs.YtbfggncmjdhapaaGreatDoor
open Go.RowKit
set_option linter.unusedVariables false

theorem und_3 : Tryz.prog.underlying 98 = some (.array 3 3) := by kernel_rfl
theorem cellsOf_3 : Tryz.prog.cellsOf 98 = 3 := by kernel_rfl
theorem eqAt_3 (d : Nat) : EqAt Tryz.prog (d + 2) 98 := run_equalIn_deep d 2 98 (by kernel_rfl)
theorem keyLits_3 (d : Nat) (a b c : Int) (h1 : (Lit.int .i64 a).wf = true) (h2 : (Lit.int .i64 b).wf = true) (h3 : (Lit.int .i64 c).wf = true) : Tryz.prog.keyLits (d + 2) 98 [.int .i64 a, .int .i64 b, .int .i64 c] = some [.int .i64 a, .int .i64 b, .int .i64 c] := by
  unfold Program.keyLits
  rw [und_3]
  simp only [cellsOf_3, cellsOf_int, List.length_cons, List.length_nil, Nat.reduceAdd, if_true]
  have e1 : List.take 1 (List.drop (0 * 1) ([.int .i64 a, .int .i64 b, .int .i64 c] : List Value)) = [.int .i64 a] := rfl
  have e2 : List.take 1 (List.drop (1 * 1) ([.int .i64 a, .int .i64 b, .int .i64 c] : List Value)) = [.int .i64 b] := rfl
  have e3 : List.take 1 (List.drop (2 * 1) ([.int .i64 a, .int .i64 b, .int .i64 c] : List Value)) = [.int .i64 c] := rfl
  rw [show List.range 3 = [0, 1, 2] from rfl]
  simp only [List.mapM_cons, List.mapM_nil, e1, e2, e3, keyLits_int]
  simp [h1, h2, h3]
theorem formed_3 (cs : Array Value) : Value.formed Tryz.prog 98 (.agg cs) = (cs.size == 3) := by
  unfold Value.formed
  rw [und_3, cellsOf_3]
theorem neq_3 (a b c : Int) (w : World) (h1 : (Lit.int .i64 a).wf = true) (h2 : (Lit.int .i64 b).wf = true) (h3 : (Lit.int .i64 c).wf = true) : (binOp .neq 98 (.agg #[.int .i64 a, .int .i64 b, .int .i64 c]) (.agg #[.int .i64 a, .int .i64 b, .int .i64 c])).run Tryz.prog w = .ok (.bool false) w := by
  obtain ⟨r, hr, hi⟩ := eqAt_3 9998 w 2 2 (.agg #[.int .i64 a, .int .i64 b, .int .i64 c]) (.agg #[.int .i64 a, .int .i64 b, .int .i64 c]) _ _ (by rw [formed_3]; rfl) (by rw [formed_3]; rfl) (keyLits_3 0 a b c h1 h2 h3) (keyLits_3 0 a b c h1 h2 h3)
  have hr1 : r = true := hi.2 rfl
  rw [run_neq_struct, show (10000 : Nat) = 9998 + 2 from rfl, hr, hr1]
  rfl
theorem guard_3 (op : BinOp) (x y : Operand) (xs ys : Array Value) (w : World) : (eqGuard op 98 x y (.agg xs) (.agg ys)).run Tryz.prog w = .ok () w :=
  run_eqGuard_agg w op _ x y xs ys (by kernel_rfl)
set_option maxHeartbeats 8000000 in
set_option maxRecDepth 100000 in
theorem is13 (vp vw : Value) (p : PolB) (w : World) (hp : PolyB w vp p) (hw : R13 w vw p) (okp : okB2 p) (hl : lenB p ≤ 1000) :
    Calls Tryz.prog 27 #[vp, vw] w fun e w' => e = .returned (.bool true) ∧ Below w.heap.size w w' := by
  have HP := Lib.hid (fun W (hb : Below w.heap.size w W) => hp.below hb)
  have HOK := Lib.hid okp
  have hlim : Srt2 (p.getD []) ∧ Lim2 (p.getD []) := by
    cases p with
    | none => exact ⟨List.Pairwise.nil, Lim2.nil⟩
    | some l => exact ⟨okp.1.srt, okp.2⟩
  have HLM := Lib.hid hlim
  have HLL := Lib.hid (show lenB p = (p.getD []).length from rfl)
  obtain ⟨b1, A1, n1, c1, rfl, j1, j2⟩ := hp.parts
  obtain ⟨b2, A2, n2, c2, rfl, i1, i2, hx2⟩ := hw.parts
  have eb : b2 = b1 := i1.trans j1.symm
  subst eb
  have HX2 := Lib.hid (fun W (hb : Below w.heap.size w W) => hx2.below hb)
  obtain ⟨n, hn⟩ : ∃ n, n = (p.getD []).length := ⟨_, rfl⟩
  have e2 : n2 = n := i2.trans hn.symm
  subst e2
  have hl2 : n2 ≤ 1000 := by rw [hn]; exact hl
  have HN := Lib.hid hn
  clear hp hw okp hlim j2 hx2 hn i2 hl
  have HBG0 := Lib.hid (fun W (hb : Below w.heap.size w W) => bBig_any (.agg #[.bool b2, .slice A1 n1 c1]) p W (HP.out W hb))
  rw [← j1] at HBG0
  clear j1 i1
  have HTE := Lib.hid (fun W (hb : Below w.heap.size w W) => Terms_any (.agg #[.bool b2, .slice A1 n1 c1]) p W (HP.out W hb) (by rw [HLL.out, ← HN.out]; omega))
  obtain ⟨b1, hb1⟩ : ∃ b, b = b2 := ⟨_, rfl⟩
  rw [← hb1] at HP HBG0 HTE ⊢
  clear hb1 b2
  obtain ⟨n, hn⟩ : ∃ n, n = n2 := ⟨_, rfl⟩
  rw [← hn] at HX2 HN hl2 ⊢
  clear hn n2
  have hW : ∀ W, W = (w.alloc (.cells #[.bool b1, .slice A1 n1 c1] 27)).alloc (.cells #[.slice A2 n c2, .bool b1] 49) → Arr W w.heap.size 27 [.bool b1, .slice A1 n1 c1] ∧ Arr W (w.heap.size + 1) 49 [.slice A2 n c2, .bool b1] ∧ Below w.heap.size w W := by
    intro W hW
    subst hW
    exact ⟨(Arr.new _ _ [_, _]).alloc _, Arr.newAt (w.alloc _) _ [_, _] _ (by simp), ((Below.refl _ _).alloc (Nat.le_refl _) _).alloc (by simp) _⟩
  go_enter Tryz.func27, Tryz.ntmps27
  go_upto_region 1 with fail
  generalize (w.alloc (.cells #[.bool b1, .slice A1 n1 c1] 27)).alloc (.cells #[.slice A2 n c2, .bool b1] 49) = w3 at hW ⊢
  obtain ⟨q1, q2, hb3⟩ := hW w3 rfl
  obtain ⟨B1, hB1⟩ : ∃ B, B = w.heap.size := ⟨_, rfl⟩
  obtain ⟨B2, hB2⟩ : ∃ B, B = w.heap.size + 1 := ⟨_, rfl⟩
  rw [← hB2] at q2 ⊢
  rw [← hB1] at q1 ⊢
  have Q10 := Lib.hid q1
  have Q20 := Lib.hid q2
  have HB3 := Lib.hid (show Below w.heap.size w w3 from hB1 ▸ hb3)
  have y0 := q1.cell 0
  have y1 := q1.cell 1
  clear hW q1 q2 hb3 hB1 hB2
  go_wp2_with fail
  refine (HTE.out w3 HB3.out).mono ?_
  rintro e w4 ⟨v5, rfl, ho5, hb4⟩
  obtain ⟨A5, c5, rfl⟩ := ho5.form
  have Q1 := Lib.hid (Q10.out.below hb4 Q10.out.lt)
  have Q2 := Lib.hid (Q20.out.below hb4 Q20.out.lt)
  have HB4 := Lib.hid (HB3.out.trans (hb4.mono HB3.out.size))
  have hsl := ho5.sl
  rw [← HN.out] at hsl ⊢
  have HX5 := Lib.hid (fun W (hb : Below w4.heap.size w4 W) => hsl.below hb)
  have HBG := Lib.hid (fun W (hb : Below w4.heap.size w4 W) => HBG0.out W (HB4.out.trans (hb.mono HB4.out.size)))
  clear ho5 hsl hb4 Q10 Q20 HB3 HTE HBG0 y0 y1
  go_upto_region 2 with fail
  refine wp_region_phy (fun a b => Below a.heap.size a b) (fun h k => h.trans (k.mono h.size)) ((Below.refl _ _).drew) (by kernel_rfl) (by kernel_rfl) (by kernel_rfl) (by kernel_rfl) (phiT (fun i => ([some (.agg #[.bool b1, .slice A1 n1 c1]), some (.bool b1), some (.pointer (some ⟨B2, 1, none⟩)), some (.bool b1), some (.bool false), some (.bool false), some (.slice A5 n c5), some (.int .i64 (n : Int)), some (.pointer (some ⟨B2, 0, none⟩)), some (.slice A2 n c2), some (.int .i64 (n : Int)), some (.bool false), some (.bool false)] : List (Option Value)).getD i none) (fun i v w => True)) (fun i v w w' h hb => ?_) ⟨?_, ?_, ?_, ?_, ?_, ?_, ?_, ?_, ?_, ?_, ?_, ?_, ?_, trivial⟩ ?_
  · unfold phiT at h ⊢
    split
    · next u hu => rw [hu] at h; exact h
    · next hu =>
      rw [hu] at h
      exact True.intro
  · intro x w1 bA hT hdep hold hb
    refine .inl ⟨trivial, ?_⟩
    have e2 : bA.tmps[2]?.getD undef = .pointer (some ⟨B1, 0, none⟩) := hb 2
    have cc0 := (Q1.out.below hT Q1.out.lt).cell 0
    have cc1 := (Q1.out.below hT Q1.out.lt).cell 1
    refine phx_run (.agg #[.bool b1, .slice A1 n1 c1]) ?_ (Below.refl _ _) rfl
    clear hb hdep hold
    go_simp
  · intro x w1 bA hT hdep hold hb
    refine .inl ⟨trivial, ?_⟩
    have e10 : bA.tmps[10]?.getD undef = .agg #[.bool b1, .slice A1 n1 c1] := (hb 10).trans (hdep 0 (by decide))
    refine phx_call ?_ ((HBG.out w1 hT).mono fun e w' h => ⟨_, h.1, h.2, rfl⟩)
    clear hb hdep hold
    go_simp
  · intro x w1 bA hT hdep hold hb
    refine .inl ⟨trivial, ?_⟩
    have e3 : bA.tmps[3]?.getD undef = .pointer (some ⟨B2, 0, none⟩) := hb 3
    refine phx_run (.pointer (some ⟨B2, 1, none⟩)) ?_ (Below.refl _ _) rfl
    clear hb hdep hold
    go_simp
  · intro x w1 bA hT hdep hold hb
    refine .inl ⟨trivial, ?_⟩
    have e12 : bA.tmps[12]?.getD undef = .pointer (some ⟨B2, 1, none⟩) := (hb 12).trans (hdep 2 (by decide))
    have cc1 := (Q2.out.below hT Q2.out.lt).cell 1
    refine phx_run (.bool b1) ?_ (Below.refl _ _) rfl
    clear hb hdep hold
    go_simp
  · intro x w1 bA hT hdep hold hb
    refine .inl ⟨trivial, ?_⟩
    have e11 : bA.tmps[11]?.getD undef = .bool b1 := (hb 11).trans (hdep 1 (by decide))
    have e13 : bA.tmps[13]?.getD undef = .bool b1 := (hb 13).trans (hdep 3 (by decide))
    have zz := (show (b1 != b1) = false from by simp)
    refine phx_run (.bool false) ?_ (Below.refl _ _) rfl
    clear hb hdep hold
    go_simp
  · intro x w1 bA hT hdep hold hb
    refine .inl ⟨trivial, ?_⟩
    have e14 : bA.tmps[14]?.getD undef = .bool false := (hb 14).trans (hdep 4 (by decide))
    refine phx_run (.bool false) ?_ (Below.refl _ _) rfl
    clear hb hdep hold
    go_simp
  · intro x w1 bA hT hdep hold hb
    refine .inl ⟨⟨15, rfl, (hb 15).trans (hdep 5 (by decide))⟩, ?_⟩
    have e5 : bA.tmps[5]?.getD undef = .slice A5 n c5 := hb 5
    refine phx_run (.slice A5 n c5) ?_ (Below.refl _ _) rfl
    clear hb hdep hold
    go_simp
  · intro x w1 bA hT hdep hold hb
    refine .inl ⟨⟨15, rfl, (hb 15).trans (hdep 5 (by decide))⟩, ?_⟩
    have e16 : bA.tmps[16]?.getD undef = .slice A5 n c5 := (hb 16).trans (hdep 6 (by decide))
    refine phx_run (.int .i64 (n : Int)) ?_ (Below.refl _ _) rfl
    clear hb hdep hold
    go_simp
  · intro x w1 bA hT hdep hold hb
    refine .inl ⟨⟨15, rfl, (hb 15).trans (hdep 5 (by decide))⟩, ?_⟩
    have e3 : bA.tmps[3]?.getD undef = .pointer (some ⟨B2, 0, none⟩) := hb 3
    refine phx_run (.pointer (some ⟨B2, 0, none⟩)) ?_ (Below.refl _ _) rfl
    clear hb hdep hold
    go_simp
  · intro x w1 bA hT hdep hold hb
    refine .inl ⟨⟨15, rfl, (hb 15).trans (hdep 5 (by decide))⟩, ?_⟩
    have e18 : bA.tmps[18]?.getD undef = .pointer (some ⟨B2, 0, none⟩) := (hb 18).trans (hdep 8 (by decide))
    have cc0 := (Q2.out.below hT Q2.out.lt).cell 0
    refine phx_run (.slice A2 n c2) ?_ (Below.refl _ _) rfl
    clear hb hdep hold
    go_simp
  · intro x w1 bA hT hdep hold hb
    refine .inl ⟨⟨15, rfl, (hb 15).trans (hdep 5 (by decide))⟩, ?_⟩
    have e19 : bA.tmps[19]?.getD undef = .slice A2 n c2 := (hb 19).trans (hdep 9 (by decide))
    refine phx_run (.int .i64 (n : Int)) ?_ (Below.refl _ _) rfl
    clear hb hdep hold
    go_simp
  · intro x w1 bA hT hdep hold hb
    refine .inl ⟨⟨15, rfl, (hb 15).trans (hdep 5 (by decide))⟩, ?_⟩
    have e17 : bA.tmps[17]?.getD undef = .int .i64 (n : Int) := (hb 17).trans (hdep 7 (by decide))
    have e20 : bA.tmps[20]?.getD undef = .int .i64 (n : Int) := (hb 20).trans (hdep 10 (by decide))
    have zz := (show ((n : Int) != (n : Int)) = false from by simp)
    refine phx_run (.bool false) ?_ (Below.refl _ _) rfl
    clear hb hdep hold
    go_simp
  · intro x w1 bA hT hdep hold hb
    refine .inl ⟨trivial, ?_⟩
    have e15 : bA.tmps[15]?.getD undef = .bool false := (hb 15).trans (hdep 5 (by decide))
    have e21 : bA.tmps[21]?.getD undef = .bool false := (hb 21).trans (hdep 11 (by decide))
    refine phx_run (.bool false) ?_ (Below.refl _ _) rfl
    clear hb hdep hold
    go_simp
  intro x w1 hT hall
  have x0e : x 0 = .agg #[.bool b1, .slice A1 n1 c1] := hall 0 (by decide)
  have x1e : x 1 = .bool b1 := hall 1 (by decide)
  have x2e : x 2 = .pointer (some ⟨B2, 1, none⟩) := hall 2 (by decide)
  have x3e : x 3 = .bool b1 := hall 3 (by decide)
  have x4e : x 4 = .bool false := hall 4 (by decide)
  have x5e : x 5 = .bool false := hall 5 (by decide)
  have x6e : x 6 = .slice A5 n c5 := hall 6 (by decide)
  have x7e : x 7 = .int .i64 (n : Int) := hall 7 (by decide)
  have x8e : x 8 = .pointer (some ⟨B2, 0, none⟩) := hall 8 (by decide)
  have x9e : x 9 = .slice A2 n c2 := hall 9 (by decide)
  have x10e : x 10 = .int .i64 (n : Int) := hall 10 (by decide)
  have x11e : x 11 = .bool false := hall 11 (by decide)
  have x12e : x 12 = .bool false := hall 12 (by decide)
  simp only [putAll, dstOf, Act.put, List.map_cons, List.map_nil, List.setIfInBounds_toArray, List.set_cons_succ, List.set_cons_zero, Nat.reduceAdd, x0e, x1e, x2e, x3e, x4e, x5e, x6e, x7e, x8e, x9e, x10e, x11e, x12e]
  clear x0e x1e x2e x3e x4e x5e x6e x7e x8e x9e x10e x11e x12e hall
  have Q1' := Lib.hid (Q1.out.below hT Q1.out.lt)
  have Q2' := Lib.hid (Q2.out.below hT Q2.out.lt)
  have HB' := Lib.hid (HB4.out.trans (hT.mono HB4.out.size))
  have HX' := Lib.hid (fun W (hb : Below w1.heap.size w1 W) => HX5.out W (hT.trans (hb.mono hT.size)))
  clear Q1 Q2 HB4 HX5 HBG hT
  go_wp2_with fail
  go_loopg [25] n (fun gk s25 wr => ∃ k : Nat, k ≤ n ∧ gk = n - k ∧ s25 = .int .i64 (k : Int) ∧ Below w1.heap.size w1 wr)
  case atStart => exact ⟨0, Nat.zero_le _, rfl, rfl, Below.refl _ _⟩
  case round =>
    obtain ⟨k, hk, rfl, rfl, hbr⟩ := hrel
    by_cases hlt : k < n
    · have z1 : (k : Int) < (n : Int) := by omega
      have hkl : k < (p.getD []).length := by rw [← HN.out]; exact hlt
      obtain ⟨b8, o8, rfl, -, y0, y1, y2⟩ := (HX'.out wr hbr).at3 hkl
      have HBW := Lib.hid (HB'.out.trans (hbr.mono HB'.out.size))
      obtain ⟨b9, o9, rfl, -, -, -, -⟩ := (HX2.out wr HBW.out).at3 hkl
      have HWC0 := Lib.hid (fun W (hb : Below w.heap.size w W) => (HX2.out W hb).cells3 hkl)
      have HCF := Lib.hid (cg2_mem HLM.out.1 (List.getElem_mem hkl))
      have hco := HLM.out.2.co _ (List.getElem_mem hkl)
      have hea := HLM.out.2.ea _ (List.getElem_mem hkl)
      have hez := HLM.out.2.ez _ (List.getElem_mem hkl)
      have HCO0 := Lib.hid (fun W (hb : Below w.heap.size w W) => bCoef_any (.agg #[.bool b1, .slice A1 n1 c1]) p (p.getD [])[k].1.1 (p.getD [])[k].1.2 W (HP.out W hb) HOK.out (by rw [HLL.out, ← HN.out]; omega))
      have HCF2 := Lib.hid (show cg2 (p.getD []) ((p.getD [])[k].1.1, (p.getD [])[k].1.2) = (p.getD [])[k].2 from HCF.out)
      rw [HCF2.out] at HCO0
      clear HCF HCF2
      generalize (p.getD [])[k] = y at *
      obtain ⟨⟨ya, yb⟩, yc⟩ := y
      simp only at y0 y1 y2 HWC0 hco hea hez HCO0
      have HN3 := Lib.hid (fun W => neq_3 ya yb yc W (WalkArith.wf_i64 (by omega)) (WalkArith.wf_i64 (by omega)) (WalkArith.wf_i64 (by omega)))
      have HG3 := Lib.hid (fun (op : BinOp) (x y : Operand) W => guard_3 op x y #[.int .i64 ya, .int .i64 yb, .int .i64 yc] #[.int .i64 ya, .int .i64 yb, .int .i64 yc] W)
      have HZ := Lib.hid z1
      have hW : ∀ W, W = wr.alloc (.cells #[.int .i64 ya, .int .i64 yb, .int .i64 yc] 98) → ∃ g, g = wr.heap.size ∧ Arr W g 98 [.int .i64 ya, .int .i64 yb, .int .i64 yc] ∧ Below w1.heap.size w1 W := by
        intro W hW
        subst hW
        exact ⟨_, rfl, Arr.new _ _ [_, _, _], hbr.alloc hbr.size _⟩
      have HW := Lib.hid hW
      clear hW hbr hco hea hez HBW
      go_upto_region 7 with fail
      have hW := HW.out
      clear HW y0 y1 y2
      generalize wr.alloc (.cells #[.int .i64 ya, .int .i64 yb, .int .i64 yc] 98) = w5 at hW ⊢
      obtain ⟨g, hg, hqg, hb5⟩ := hW w5 rfl
      rw [← hg]
      have QG := Lib.hid hqg
      have Q1 := Lib.hid (Q1'.out.below hb5 Q1'.out.lt)
      have Q2 := Lib.hid (Q2'.out.below hb5 Q2'.out.lt)
      have HB5 := Lib.hid hb5
      have HBB := Lib.hid (HB'.out.trans (hb5.mono HB'.out.size))
      have HWC := Lib.hid (fun W (hb : Below w5.heap.size w5 W) => HWC0.out W (HBB.out.trans (hb.mono HBB.out.size)))
      have HCO := Lib.hid (fun W (hb : Below w5.heap.size w5 W) => HCO0.out W (HBB.out.trans (hb.mono HBB.out.size)))
      clear hW hg hqg hb5 HWC0 HCO0
      obtain ⟨y1, hy1⟩ : ∃ z, z = ya := ⟨_, rfl⟩
      obtain ⟨y2, hy2⟩ : ∃ z, z = yb := ⟨_, rfl⟩
      obtain ⟨y3, hy3⟩ : ∃ z, z = yc := ⟨_, rfl⟩
      rw [← hy1, ← hy2, ← hy3] at HN3 HG3 QG HWC HCO
      clear hy1 hy2 hy3
      refine wp_region_phy (fun a b => Below a.heap.size a b) (fun h k => h.trans (k.mono h.size)) ((Below.refl _ _).drew) (by kernel_rfl) (by kernel_rfl) (by kernel_rfl) (by kernel_rfl) (phiT (fun i => ([some (.agg #[.int .i64 y1, .int .i64 y2, .int .i64 y3]), some (.pointer (some ⟨B2, 0, none⟩)), some (.slice (some ⟨b9, o9, none⟩) n c2), some (.int .i64 (k : Int)), some (.pointer (some ⟨b9, o9 + k * 3, none⟩)), some (.pointer (some ⟨b9, o9 + k * 3, none⟩)), some (.int .i64 y1), some (.pointer (some ⟨B2, 0, none⟩)), some (.slice (some ⟨b9, o9, none⟩) n c2), some (.int .i64 (k : Int)), some (.pointer (some ⟨b9, o9 + k * 3, none⟩)), some (.pointer (some ⟨b9, o9 + k * 3 + 1, none⟩)), some (.int .i64 y2), some (.pointer (some ⟨B2, 0, none⟩)), some (.slice (some ⟨b9, o9, none⟩) n c2), some (.int .i64 (k : Int)), some (.pointer (some ⟨b9, o9 + k * 3, none⟩)), some (.pointer (some ⟨b9, o9 + k * 3 + 2, none⟩)), some (.int .i64 y3), some (.agg #[.int .i64 y1, .int .i64 y2, .int .i64 y3]), some (.bool false), some (.bool false), some (.agg #[.bool b1, .slice A1 n1 c1]), some (.pointer (some ⟨g, 0, none⟩)), some (.int .i64 y1), some (.pointer (some ⟨g, 1, none⟩)), some (.int .i64 y2), some (.int .i64 y3), some (.pointer (some ⟨g, 2, none⟩)), some (.int .i64 y3), some (.bool false), some (.bool false)] : List (Option Value)).getD i none) (fun i v w => True)) (fun i v w w' h hb => ?_) ⟨?_, ?_, ?_, ?_, ?_, ?_, ?_, ?_, ?_, ?_, ?_, ?_, ?_, ?_, ?_, ?_, ?_, ?_, ?_, ?_, ?_, ?_, ?_, ?_, ?_, ?_, ?_, ?_, ?_, ?_, ?_, ?_, trivial⟩ ?_
      · unfold phiT at h ⊢
        split
        · next u hu => rw [hu] at h; exact h
        · next hu =>
          rw [hu] at h
          exact True.intro
      · intro x w1 bA hT hdep hold hb
        refine .inl ⟨trivial, ?_⟩
        have e7 : bA.tmps[7]?.getD undef = .pointer (some ⟨g, 0, none⟩) := hb 7
        have cc0 := (QG.out.below hT QG.out.lt).cell 0
        have cc1 := (QG.out.below hT QG.out.lt).cell 1
        have cc2 := (QG.out.below hT QG.out.lt).cell 2
        refine phx_run (.agg #[.int .i64 y1, .int .i64 y2, .int .i64 y3]) ?_ (Below.refl _ _) rfl
        clear hb hdep hold
        go_simp
      · intro x w1 bA hT hdep hold hb
        refine .inl ⟨trivial, ?_⟩
        have e3 : bA.tmps[3]?.getD undef = .pointer (some ⟨B2, 0, none⟩) := hb 3
        refine phx_run (.pointer (some ⟨B2, 0, none⟩)) ?_ (Below.refl _ _) rfl
        clear hb hdep hold
        go_simp
      · intro x w1 bA hT hdep hold hb
        refine .inl ⟨trivial, ?_⟩
        have e31 : bA.tmps[31]?.getD undef = .pointer (some ⟨B2, 0, none⟩) := (hb 31).trans (hdep 1 (by decide))
        have cc0 := (Q2.out.below hT Q2.out.lt).cell 0
        refine phx_run (.slice (some ⟨b9, o9, none⟩) n c2) ?_ (Below.refl _ _) rfl
        clear hb hdep hold
        go_simp
      · intro x w1 bA hT hdep hold hb
        refine .inl ⟨trivial, ?_⟩
        have e6 : bA.tmps[6]?.getD undef = .int .i64 (k : Int) := hb 6
        refine phx_run (.int .i64 (k : Int)) ?_ (Below.refl _ _) rfl
        clear hb hdep hold
        go_simp
      · intro x w1 bA hT hdep hold hb
        refine .inl ⟨trivial, ?_⟩
        have e32 : bA.tmps[32]?.getD undef = .slice (some ⟨b9, o9, none⟩) n c2 := (hb 32).trans (hdep 2 (by decide))
        have e33 : bA.tmps[33]?.getD undef = .int .i64 (k : Int) := (hb 33).trans (hdep 3 (by decide))
        have zz := HZ.out
        refine phx_run (.pointer (some ⟨b9, o9 + k * 3, none⟩)) ?_ (Below.refl _ _) rfl
        clear hb hdep hold
        go_simp
      · intro x w1 bA hT hdep hold hb
        refine .inl ⟨trivial, ?_⟩
        have e34 : bA.tmps[34]?.getD undef = .pointer (some ⟨b9, o9 + k * 3, none⟩) := (hb 34).trans (hdep 4 (by decide))
        refine phx_run (.pointer (some ⟨b9, o9 + k * 3, none⟩)) ?_ (Below.refl _ _) rfl
        clear hb hdep hold
        go_simp
      · intro x w1 bA hT hdep hold hb
        refine .inl ⟨trivial, ?_⟩
        have e35 : bA.tmps[35]?.getD undef = .pointer (some ⟨b9, o9 + k * 3, none⟩) := (hb 35).trans (hdep 5 (by decide))
        obtain ⟨d0, d1, d2⟩ := HWC.out w1 hT
        refine phx_run (.int .i64 y1) ?_ (Below.refl _ _) rfl
        clear hb hdep hold
        go_simp
      · intro x w1 bA hT hdep hold hb
        refine .inl ⟨trivial, ?_⟩
        have e3 : bA.tmps[3]?.getD undef = .pointer (some ⟨B2, 0, none⟩) := hb 3
        refine phx_run (.pointer (some ⟨B2, 0, none⟩)) ?_ (Below.refl _ _) rfl
        clear hb hdep hold
        go_simp
      · intro x w1 bA hT hdep hold hb
        refine .inl ⟨trivial, ?_⟩
        have e37 : bA.tmps[37]?.getD undef = .pointer (some ⟨B2, 0, none⟩) := (hb 37).trans (hdep 7 (by decide))
        have cc0 := (Q2.out.below hT Q2.out.lt).cell 0
        refine phx_run (.slice (some ⟨b9, o9, none⟩) n c2) ?_ (Below.refl _ _) rfl
        clear hb hdep hold
        go_simp
      · intro x w1 bA hT hdep hold hb
        refine .inl ⟨trivial, ?_⟩
        have e6 : bA.tmps[6]?.getD undef = .int .i64 (k : Int) := hb 6
        refine phx_run (.int .i64 (k : Int)) ?_ (Below.refl _ _) rfl
        clear hb hdep hold
        go_simp
      · intro x w1 bA hT hdep hold hb
        refine .inl ⟨trivial, ?_⟩
        have e38 : bA.tmps[38]?.getD undef = .slice (some ⟨b9, o9, none⟩) n c2 := (hb 38).trans (hdep 8 (by decide))
        have e39 : bA.tmps[39]?.getD undef = .int .i64 (k : Int) := (hb 39).trans (hdep 9 (by decide))
        have zz := HZ.out
        refine phx_run (.pointer (some ⟨b9, o9 + k * 3, none⟩)) ?_ (Below.refl _ _) rfl
        clear hb hdep hold
        go_simp
      · intro x w1 bA hT hdep hold hb
        refine .inl ⟨trivial, ?_⟩
        have e40 : bA.tmps[40]?.getD undef = .pointer (some ⟨b9, o9 + k * 3, none⟩) := (hb 40).trans (hdep 10 (by decide))
        refine phx_run (.pointer (some ⟨b9, o9 + k * 3 + 1, none⟩)) ?_ (Below.refl _ _) rfl
        clear hb hdep hold
        go_simp
      · intro x w1 bA hT hdep hold hb
        refine .inl ⟨trivial, ?_⟩
        have e41 : bA.tmps[41]?.getD undef = .pointer (some ⟨b9, o9 + k * 3 + 1, none⟩) := (hb 41).trans (hdep 11 (by decide))
        obtain ⟨d0, d1, d2⟩ := HWC.out w1 hT
        refine phx_run (.int .i64 y2) ?_ (Below.refl _ _) rfl
        clear hb hdep hold
        go_simp
      · intro x w1 bA hT hdep hold hb
        refine .inl ⟨trivial, ?_⟩
        have e3 : bA.tmps[3]?.getD undef = .pointer (some ⟨B2, 0, none⟩) := hb 3
        refine phx_run (.pointer (some ⟨B2, 0, none⟩)) ?_ (Below.refl _ _) rfl
        clear hb hdep hold
        go_simp
      · intro x w1 bA hT hdep hold hb
        refine .inl ⟨trivial, ?_⟩
        have e43 : bA.tmps[43]?.getD undef = .pointer (some ⟨B2, 0, none⟩) := (hb 43).trans (hdep 13 (by decide))
        have cc0 := (Q2.out.below hT Q2.out.lt).cell 0
        refine phx_run (.slice (some ⟨b9, o9, none⟩) n c2) ?_ (Below.refl _ _) rfl
        clear hb hdep hold
        go_simp
      · intro x w1 bA hT hdep hold hb
        refine .inl ⟨trivial, ?_⟩
        have e6 : bA.tmps[6]?.getD undef = .int .i64 (k : Int) := hb 6
        refine phx_run (.int .i64 (k : Int)) ?_ (Below.refl _ _) rfl
        clear hb hdep hold
        go_simp
      · intro x w1 bA hT hdep hold hb
        refine .inl ⟨trivial, ?_⟩
        have e44 : bA.tmps[44]?.getD undef = .slice (some ⟨b9, o9, none⟩) n c2 := (hb 44).trans (hdep 14 (by decide))
        have e45 : bA.tmps[45]?.getD undef = .int .i64 (k : Int) := (hb 45).trans (hdep 15 (by decide))
        have zz := HZ.out
        refine phx_run (.pointer (some ⟨b9, o9 + k * 3, none⟩)) ?_ (Below.refl _ _) rfl
        clear hb hdep hold
        go_simp
      · intro x w1 bA hT hdep hold hb
        refine .inl ⟨trivial, ?_⟩
        have e46 : bA.tmps[46]?.getD undef = .pointer (some ⟨b9, o9 + k * 3, none⟩) := (hb 46).trans (hdep 16 (by decide))
        refine phx_run (.pointer (some ⟨b9, o9 + k * 3 + 2, none⟩)) ?_ (Below.refl _ _) rfl
        clear hb hdep hold
        go_simp
      · intro x w1 bA hT hdep hold hb
        refine .inl ⟨trivial, ?_⟩
        have e47 : bA.tmps[47]?.getD undef = .pointer (some ⟨b9, o9 + k * 3 + 2, none⟩) := (hb 47).trans (hdep 17 (by decide))
        obtain ⟨d0, d1, d2⟩ := HWC.out w1 hT
        refine phx_run (.int .i64 y3) ?_ (Below.refl _ _) rfl
        clear hb hdep hold
        go_simp
      · intro x w1 bA hT hdep hold hb
        refine .inl ⟨trivial, ?_⟩
        have e36 : bA.tmps[36]?.getD undef = .int .i64 y1 := (hb 36).trans (hdep 6 (by decide))
        have e42 : bA.tmps[42]?.getD undef = .int .i64 y2 := (hb 42).trans (hdep 12 (by decide))
        have e48 : bA.tmps[48]?.getD undef = .int .i64 y3 := (hb 48).trans (hdep 18 (by decide))
        refine phx_run (.agg #[.int .i64 y1, .int .i64 y2, .int .i64 y3]) ?_ (Below.refl _ _) rfl
        clear hb hdep hold
        go_simp
      · intro x w1 bA hT hdep hold hb
        refine .inl ⟨trivial, ?_⟩
        have e30 : bA.tmps[30]?.getD undef = .agg #[.int .i64 y1, .int .i64 y2, .int .i64 y3] := (hb 30).trans (hdep 0 (by decide))
        have e49 : bA.tmps[49]?.getD undef = .agg #[.int .i64 y1, .int .i64 y2, .int .i64 y3] := (hb 49).trans (hdep 19 (by decide))
        have hnn := HN3.out
        have hgg := HG3.out
        refine phx_run (.bool false) ?_ (Below.refl _ _) rfl
        clear hb hdep hold
        go_simp
      · intro x w1 bA hT hdep hold hb
        refine .inl ⟨trivial, ?_⟩
        have e50 : bA.tmps[50]?.getD undef = .bool false := (hb 50).trans (hdep 20 (by decide))
        refine phx_run (.bool false) ?_ (Below.refl _ _) rfl
        clear hb hdep hold
        go_simp
      · intro x w1 bA hT hdep hold hb
        refine .inl ⟨⟨51, rfl, (hb 51).trans (hdep 21 (by decide))⟩, ?_⟩
        have e2 : bA.tmps[2]?.getD undef = .pointer (some ⟨B1, 0, none⟩) := hb 2
        have cc0 := (Q1.out.below hT Q1.out.lt).cell 0
        have cc1 := (Q1.out.below hT Q1.out.lt).cell 1
        refine phx_run (.agg #[.bool b1, .slice A1 n1 c1]) ?_ (Below.refl _ _) rfl
        clear hb hdep hold
        go_simp
      · intro x w1 bA hT hdep hold hb
        refine .inl ⟨⟨51, rfl, (hb 51).trans (hdep 21 (by decide))⟩, ?_⟩
        have e7 : bA.tmps[7]?.getD undef = .pointer (some ⟨g, 0, none⟩) := hb 7
        refine phx_run (.pointer (some ⟨g, 0, none⟩)) ?_ (Below.refl _ _) rfl
        clear hb hdep hold
        go_simp
      · intro x w1 bA hT hdep hold hb
        refine .inl ⟨⟨51, rfl, (hb 51).trans (hdep 21 (by decide))⟩, ?_⟩
        have e53 : bA.tmps[53]?.getD undef = .pointer (some ⟨g, 0, none⟩) := (hb 53).trans (hdep 23 (by decide))
        have cc0 := (QG.out.below hT QG.out.lt).cell 0
        refine phx_run (.int .i64 y1) ?_ (Below.refl _ _) rfl
        clear hb hdep hold
        go_simp
      · intro x w1 bA hT hdep hold hb
        refine .inl ⟨⟨51, rfl, (hb 51).trans (hdep 21 (by decide))⟩, ?_⟩
        have e7 : bA.tmps[7]?.getD undef = .pointer (some ⟨g, 0, none⟩) := hb 7
        refine phx_run (.pointer (some ⟨g, 1, none⟩)) ?_ (Below.refl _ _) rfl
        clear hb hdep hold
        go_simp
      · intro x w1 bA hT hdep hold hb
        refine .inl ⟨⟨51, rfl, (hb 51).trans (hdep 21 (by decide))⟩, ?_⟩
        have e55 : bA.tmps[55]?.getD undef = .pointer (some ⟨g, 1, none⟩) := (hb 55).trans (hdep 25 (by decide))
        have cc1 := (QG.out.below hT QG.out.lt).cell 1
        refine phx_run (.int .i64 y2) ?_ (Below.refl _ _) rfl
        clear hb hdep hold
        go_simp
      · intro x w1 bA hT hdep hold hb
        refine .inl ⟨⟨51, rfl, (hb 51).trans (hdep 21 (by decide))⟩, ?_⟩
        have e52 : bA.tmps[52]?.getD undef = .agg #[.bool b1, .slice A1 n1 c1] := (hb 52).trans (hdep 22 (by decide))
        have e54 : bA.tmps[54]?.getD undef = .int .i64 y1 := (hb 54).trans (hdep 24 (by decide))
        have e56 : bA.tmps[56]?.getD undef = .int .i64 y2 := (hb 56).trans (hdep 26 (by decide))
        refine phx_call ?_ ((HCO.out w1 hT).mono fun e w' h => ⟨_, h.1, h.2, rfl⟩)
        clear hb hdep hold
        go_simp
      · intro x w1 bA hT hdep hold hb
        refine .inl ⟨⟨51, rfl, (hb 51).trans (hdep 21 (by decide))⟩, ?_⟩
        have e7 : bA.tmps[7]?.getD undef = .pointer (some ⟨g, 0, none⟩) := hb 7
        refine phx_run (.pointer (some ⟨g, 2, none⟩)) ?_ (Below.refl _ _) rfl
        clear hb hdep hold
        go_simp
      · intro x w1 bA hT hdep hold hb
        refine .inl ⟨⟨51, rfl, (hb 51).trans (hdep 21 (by decide))⟩, ?_⟩
        have e58 : bA.tmps[58]?.getD undef = .pointer (some ⟨g, 2, none⟩) := (hb 58).trans (hdep 28 (by decide))
        have cc2 := (QG.out.below hT QG.out.lt).cell 2
        refine phx_run (.int .i64 y3) ?_ (Below.refl _ _) rfl
        clear hb hdep hold
        go_simp
      · intro x w1 bA hT hdep hold hb
        refine .inl ⟨⟨51, rfl, (hb 51).trans (hdep 21 (by decide))⟩, ?_⟩
        have e57 : bA.tmps[57]?.getD undef = .int .i64 y3 := (hb 57).trans (hdep 27 (by decide))
        have e59 : bA.tmps[59]?.getD undef = .int .i64 y3 := (hb 59).trans (hdep 29 (by decide))
        have zz := (show (y3 != y3) = false from by simp)
        refine phx_run (.bool false) ?_ (Below.refl _ _) rfl
        clear hb hdep hold
        go_simp
      · intro x w1 bA hT hdep hold hb
        refine .inl ⟨trivial, ?_⟩
        have e51 : bA.tmps[51]?.getD undef = .bool false := (hb 51).trans (hdep 21 (by decide))
        have e60 : bA.tmps[60]?.getD undef = .bool false := (hb 60).trans (hdep 30 (by decide))
        refine phx_run (.bool false) ?_ (Below.refl _ _) rfl
        clear hb hdep hold
        go_simp
      intro x w1 hT hall
      have x0e : x 0 = .agg #[.int .i64 y1, .int .i64 y2, .int .i64 y3] := hall 0 (by decide)
      have x1e : x 1 = .pointer (some ⟨B2, 0, none⟩) := hall 1 (by decide)
      have x2e : x 2 = .slice (some ⟨b9, o9, none⟩) n c2 := hall 2 (by decide)
      have x3e : x 3 = .int .i64 (k : Int) := hall 3 (by decide)
      have x4e : x 4 = .pointer (some ⟨b9, o9 + k * 3, none⟩) := hall 4 (by decide)
      have x5e : x 5 = .pointer (some ⟨b9, o9 + k * 3, none⟩) := hall 5 (by decide)
      have x6e : x 6 = .int .i64 y1 := hall 6 (by decide)
      have x7e : x 7 = .pointer (some ⟨B2, 0, none⟩) := hall 7 (by decide)
      have x8e : x 8 = .slice (some ⟨b9, o9, none⟩) n c2 := hall 8 (by decide)
      have x9e : x 9 = .int .i64 (k : Int) := hall 9 (by decide)
      have x10e : x 10 = .pointer (some ⟨b9, o9 + k * 3, none⟩) := hall 10 (by decide)
      have x11e : x 11 = .pointer (some ⟨b9, o9 + k * 3 + 1, none⟩) := hall 11 (by decide)
      have x12e : x 12 = .int .i64 y2 := hall 12 (by decide)
      have x13e : x 13 = .pointer (some ⟨B2, 0, none⟩) := hall 13 (by decide)
      have x14e : x 14 = .slice (some ⟨b9, o9, none⟩) n c2 := hall 14 (by decide)
      have x15e : x 15 = .int .i64 (k : Int) := hall 15 (by decide)
      have x16e : x 16 = .pointer (some ⟨b9, o9 + k * 3, none⟩) := hall 16 (by decide)
      have x17e : x 17 = .pointer (some ⟨b9, o9 + k * 3 + 2, none⟩) := hall 17 (by decide)
      have x18e : x 18 = .int .i64 y3 := hall 18 (by decide)
      have x19e : x 19 = .agg #[.int .i64 y1, .int .i64 y2, .int .i64 y3] := hall 19 (by decide)
      have x20e : x 20 = .bool false := hall 20 (by decide)
      have x21e : x 21 = .bool false := hall 21 (by decide)
      have x22e : x 22 = .agg #[.bool b1, .slice A1 n1 c1] := hall 22 (by decide)
      have x23e : x 23 = .pointer (some ⟨g, 0, none⟩) := hall 23 (by decide)
      have x24e : x 24 = .int .i64 y1 := hall 24 (by decide)
      have x25e : x 25 = .pointer (some ⟨g, 1, none⟩) := hall 25 (by decide)
      have x26e : x 26 = .int .i64 y2 := hall 26 (by decide)
      have x27e : x 27 = .int .i64 y3 := hall 27 (by decide)
      have x28e : x 28 = .pointer (some ⟨g, 2, none⟩) := hall 28 (by decide)
      have x29e : x 29 = .int .i64 y3 := hall 29 (by decide)
      have x30e : x 30 = .bool false := hall 30 (by decide)
      have x31e : x 31 = .bool false := hall 31 (by decide)
      simp only [putAll, dstOf, Act.put, List.map_cons, List.map_nil, List.setIfInBounds_toArray, List.set_cons_succ, List.set_cons_zero, Nat.reduceAdd, x0e, x1e, x2e, x3e, x4e, x5e, x6e, x7e, x8e, x9e, x10e, x11e, x12e, x13e, x14e, x15e, x16e, x17e, x18e, x19e, x20e, x21e, x22e, x23e, x24e, x25e, x26e, x27e, x28e, x29e, x30e, x31e]
      clear x0e x1e x2e x3e x4e x5e x6e x7e x8e x9e x10e x11e x12e x13e x14e x15e x16e x17e x18e x19e x20e x21e x22e x23e x24e x25e x26e x27e x28e x29e x30e x31e hall
      have HTT := Lib.hid (HB5.out.trans (hT.mono HB5.out.size))
      clear hT QG Q1 Q2 HB5 HBB HWC HCO HN3 HG3
      go_wp2_with fail
      go_roundg (n - (k + 1))
      case measure => omega
      case rel => exact ⟨k + 1, by omega, rfl, by go_num, HTT.out⟩
    · have z1 : ¬ (k : Int) < (n : Int) := by omega
      have HBF := Lib.hid (HB'.out.trans (hbr.mono HB'.out.size))
      clear hbr
      go_wp2_with fail
      go_ret
      exact ⟨rfl, HBF.out⟩
end Go.Proofs.YtbfggncmjdhapaaGreatDoor
