/- surface.Alexander: the walk. -/
import Derived.Test.YtbkgpfalljgdcaaGreatDoorZMvs
import Derived.Test.YtbkgpfalljgdcaaGreatDoorZNrm
namespace Go.Proofs.YtbkgpfalljgdcaaGreatDoor
open Go.RowKit
set_option linter.unusedVariables false

/-- what Alexander returns -/
def AlxP (m : List (List Int)) (w : World) (e : Ending) (w' : World) : Prop :=
  Below w.heap.size w w' ∧
    ((sqM m = false ∧ e = .returned (.tuple #[.agg #[.bool false, .slice none 0 0], .int .i64 1])) ∨
     (sqM m = true ∧ smM m = false ∧ e = .returned (.tuple #[.agg #[.bool false, .slice none 0 0], .int .i64 9])) ∨
     (sqM m = true ∧ smM m = true ∧ ((∃ v p, e = .returned (.tuple #[v, .int .i64 0]) ∧ PolyV w' v (norP (some p)) ∧ Can p ∧ Lim p ∧ (∀ t ∈ p, 0 ≤ t.1) ∧ ∀ x, 1 ≤ x → evQ 0 x p = detE 0 (alM m) x) ∨
       (e = .returned (.tuple #[.agg #[.bool false, .slice none 0 0], .int .i64 9]) ∧ ∀ D, Can D → Lim D → (∀ t ∈ D, 0 ≤ t.1) → (∀ x, 1 ≤ x → evQ 0 x D = detE 0 (alM m) x) → False))))
set_option maxHeartbeats 8000000 in
set_option maxRecDepth 100000 in
theorem Alexander_any (v : Value) (m : List (List Int)) (w : World) (h : MatI w v m) (hn : m.length ≤ 13) (hr : ∀ r ∈ m, r.length ≤ 9223372036854775807) (hT : Tb6 w) :
    Calls Tryz.prog 15 #[v] w (AlxP m w) := by
  have HSQA := Lib.hid (fun W (hb : Below w.heap.size w W) => square_any v m W (h.below hb) (by omega) hr)
  have HSMA := Lib.hid (fun W (hb : Below w.heap.size w W) => small_any v m W (h.below hb) (by omega) hr)
  have HM := Lib.hid h
  have HT := Lib.hid hT
  obtain ⟨A, c, rfl⟩ := h.form
  obtain ⟨n, hnn⟩ : ∃ n, n = m.length := ⟨_, rfl⟩
  rw [← hnn] at hn HSQA HSMA HM ⊢
  have HN := Lib.hid hnn
  have hW : ∀ W, W = w.alloc (.cells #[.bool false, .slice none 0 0] 40) → Arr W w.heap.size 40 [.bool false, .slice none 0 0] ∧ Below w.heap.size w W := by
    intro W hW
    subst hW
    exact ⟨Arr.new _ _ [_, _], (Below.refl _ _).alloc (Nat.le_refl _) _⟩
  clear h hr hT hnn
  go_enter Tryz.func15, Tryz.ntmps15
  go_upto_region 1 with fail
  generalize w.alloc (.cells #[.bool false, .slice none 0 0] 40) = w3 at hW ⊢
  obtain ⟨qr, hb3⟩ := hW w3 rfl
  have HQR := Lib.hid (fun W (hb : Below w3.heap.size w3 W) => qr.below hb qr.lt)
  have HB3 := Lib.hid hb3
  clear hW qr hb3
  obtain ⟨sq, hsq⟩ : ∃ b, b = sqM m := ⟨_, rfl⟩
  rw [← hsq] at HSQA
  have HSQ := Lib.hid hsq
  clear hsq
  go_upto_if 11 with (go_at_call 25; refine (HSQA.out _ HB3.out).mono ?_; rintro e w4 ⟨rfl, hb4⟩)
  have HB4 := Lib.hid hb4
  clear hb4 HSQA
  cases sq with
  | false =>
    have qr := HQR.out _ HB4.out
    have HBF := Lib.hid (HB3.out.trans (HB4.out.mono HB3.out.size))
    have x0 := qr.cell 0
    have x1 := qr.cell 1
    have f0 := qr.frozen 0
    have f1 := qr.frozen 1
    have hres := Lib.hid ((qr.set 0 (.bool false)).set 1 (.slice none 0 0))
    clear qr
    go_wp2_with fail
    refine bodyPost_ret (v := .tuple #[.agg #[.bool false, .slice none 0 0], .int .i64 1]) (results_ct Tryz.results15 _ _ w.heap.size 40 _ _ rfl hres.out Tryz.underlying40 rfl info_poly) rfl ?_
    exact ⟨(HBF.out.setCell (p := ⟨w.heap.size, 0, none⟩) (Nat.le_refl _) _).setCell (p := ⟨w.heap.size, 1, none⟩) (Nat.le_refl _) _, .inl ⟨HSQ.out.symm, rfl⟩⟩
  | true =>
    have z1 : ¬ ((64 : Int) < (n : Int)) := by omega
    obtain ⟨sm, hsm⟩ : ∃ b, b = smM m := ⟨_, rfl⟩
    rw [← hsm] at HSMA
    have HSM := Lib.hid hsm
    clear hsm
    go_upto_if 19 with (go_at_call 26; refine (HSMA.out _ (HB3.out.trans (HB4.out.mono HB3.out.size))).mono ?_; rintro e w5 ⟨rfl, hb5⟩)
    have HB5 := Lib.hid (HB4.out.trans (hb5.mono HB4.out.size))
    clear hb5 HSMA HB4
    cases sm with
    | false =>
      have qr := HQR.out _ HB5.out
      have HBF := Lib.hid (HB3.out.trans (HB5.out.mono HB3.out.size))
      have x0 := qr.cell 0
      have x1 := qr.cell 1
      have f0 := qr.frozen 0
      have f1 := qr.frozen 1
      have hres := Lib.hid ((qr.set 0 (.bool false)).set 1 (.slice none 0 0))
      clear qr
      go_wp2_with fail
      refine bodyPost_ret (v := .tuple #[.agg #[.bool false, .slice none 0 0], .int .i64 9]) (results_ct Tryz.results15 _ _ w.heap.size 40 _ _ rfl hres.out Tryz.underlying40 rfl info_poly) rfl ?_
      exact ⟨(HBF.out.setCell (p := ⟨w.heap.size, 0, none⟩) (Nat.le_refl _) _).setCell (p := ⟨w.heap.size, 1, none⟩) (Nat.le_refl _) _, .inr (.inl ⟨HSQ.out.symm, HSM.out.symm, rfl⟩)⟩
    | true =>
      have HBW5 := Lib.hid (HB3.out.trans (HB5.out.mono HB3.out.size))
      have hmk := fun W => mk_pols n (by omega) W
      have hAl := (Below.refl w5.heap.size w5).alloc (Nat.le_refl _) (.cells (rowOf (List.replicate n (.slice none 0 0))) 61)
      have HE0 := Lib.hid (GnI.start (B := w.heap.size) (m := alM m) (Arr.new w5 61 (List.replicate n (.slice none 0 0))))
      have HB6 := Lib.hid (HB5.out.trans (hAl.mono HB5.out.size))
      have HBW6 := Lib.hid (HBW5.out.trans (hAl.mono HBW5.out.size))
      have HGE := Lib.hid (show w.heap.size ≤ w5.heap.size ∧ w3.heap.size ≤ w5.heap.size from ⟨HBW5.out.size, HB5.out.size⟩)
      clear hAl
      go_upto_region 8 with fail
      generalize w5.alloc (.cells (rowOf (List.replicate n (.slice none 0 0))) 61) = w6 at *
      generalize w5.heap.size = gE at *
      clear hmk HB5 HBW5
      go_upto_region 9 with fail
      go_loopg [5, 6, 26] n (fun gk s5 s6 s26 wr => ∃ (ix : Nat) (es : List SVt), ix ≤ n ∧ gk = n - ix ∧ s26 = .int .i64 (ix : Int) ∧ GnI n gE w.heap.size (alM m) ix es wr ∧ Wr [gE] w6 wr)
      case atStart => exact ⟨0, [], by omega, rfl, rfl, HE0.out, Wr.refl _ _⟩
      case round =>
        clear HE0
        obtain ⟨ix, es, hix, rfl, rfl, hen, hwr⟩ := hrel
        obtain ⟨wo, rfl⟩ : ∃ wo : World, wo = wr := ⟨_, rfl⟩
        have HBO := Lib.hid (HBW6.out.trans (hwr.below (B := w.heap.size) HBW6.out.size (fun x hx => by rw [List.mem_singleton.1 hx]; exact HGE.out.1)))
        have HEN := Lib.hid hen
        have HWR := Lib.hid hwr
        clear hen hwr
        by_cases hit : ix < n
        · have z1 : (ix : Int) < (n : Int) := by omega
          have HTM := Lib.hid (alM_get (m := m) (i := ix) (by rw [← HN.out]; exact hit))
          have HEJ := Lib.hid (HEN.out.open_ hit)
          have HWE := Lib.hid (show es.length = ix ∧ gE < wo.heap.size from ⟨HEN.out.len, HEN.out.outer.lt⟩)
          go_upto_region 12 with fail
          go_loopg [6, 31] n (fun gk s6 s31 wr => ∃ (jx : Nat) (s : SVt), jx ≤ n ∧ gk = n - jx ∧ s31 = .int .i64 (jx : Int) ∧ GnJ n gE wo ix es ((alR m ix).take jx) s wr)
          case atStart => exact ⟨0, _, by omega, rfl, rfl, HEJ.out⟩
          case round =>
            clear HEJ
            obtain ⟨jx, s, hjx, rfl, rfl, hej⟩ := hrel
            obtain ⟨wd, rfl⟩ : ∃ wd : World, wd = wr := ⟨_, rfl⟩
            have HBD := Lib.hid (HBO.out.trans (hej.wr.below (B := w.heap.size) HBO.out.size (fun x hx => by rw [List.mem_singleton.1 hx]; exact HGE.out.1)))
            by_cases hjt : jx < n
            · have z2 : (jx : Int) < (n : Int) := by omega
              have hjm : jx < m.length := by rw [← HN.out]; exact hjt
              have him : ix < m.length := by rw [← HN.out]; exact hit
              have hxs := gm_small HSM.out.symm jx ix
              have hms := HM.out
              rw [HN.out] at hms
              obtain ⟨A0, c0, b1, o1, A2, c2, b2, o2, hv0, rfl, q1, rfl, q2⟩ := hms.gmc HSQ.out.symm him hjm
              obtain ⟨A0', c0', b1', o1', A3, c3, b3, o3, hv1, rfl, q3, rfl, q4⟩ := hms.gmc HSQ.out.symm hjm him
              injection hv0 with e1 _ e2
              injection hv1 with e3 _ e4
              subst e1
              injection e3 with e3
              injection e3 with e5 e6
              subst e5; subst e6
              have HC := Lib.hid (fun W (hb : Below w.heap.size w W) => (show W.cell? ⟨b1, o1 + ix, none⟩ = some (.slice (some ⟨b2, o2, none⟩) n c2) ∧ W.cell? ⟨b2, o2 + jx, none⟩ = some (.int .i64 (gm m ix jx)) ∧ W.cell? ⟨b1, o1 + jx, none⟩ = some (.slice (some ⟨b3, o3, none⟩) n c3) ∧ W.cell? ⟨b3, o3 + ix, none⟩ = some (.int .i64 (gm m jx ix)) from by
                rw [HN.out]
                exact ⟨(hb.cell (block_lt_of_cell q1)).trans q1, (hb.cell (block_lt_of_cell q2)).trans q2, (hb.cell (block_lt_of_cell q3)).trans q3, (hb.cell (block_lt_of_cell q4)).trans q4⟩))
              have HRT := Lib.hid (alR_take (i := ix) hjm)
              have HOFB := Lib.hid (alE_terms HSM.out.symm ix jx).1
              have HOFL := Lib.hid (show alE m ix jx = ofL 0 [gm m ix jx, -gm m jx ix] from rfl)
              obtain ⟨l0, hl0⟩ : ∃ l0, l0 = alE m ix jx := ⟨_, rfl⟩
              rw [← hl0] at HRT HOFL
              generalize gm m ix jx = xv at *
              generalize gm m jx ix = yv at *
              clear e2 e4 q1 q2 q3 q4 hms hl0 hjm him
              have hyw : IntKind.i64.wrap (-yv) = -yv := IntWalk.i64_in _ (by omega)
              have HYW := Lib.hid hyw
              clear hyw
              obtain ⟨ts, hts, hown, hE⟩ := hej.own
              obtain ⟨As, ns, cs⟩ := s
              have HOU := Lib.hid hej.outer
              have HWR6 := Lib.hid hej.wr
              have HOWN := Lib.hid hown
              have HE6 := Lib.hid hE
              have HTS := Lib.hid hts
              have HSZ := Lib.hid hej.wr.size
              have HOF := Lib.hid (fun W vc (hc : Ints W vc [xv, -yv]) => (show Calls Tryz.prog 27 #[.int .i64 0, vc] W (fun e w' => ∃ m : PVt, e = .returned (.agg #[.bool m.1, .slice m.2.1 m.2.2.1 m.2.2.2]) ∧ Below W.heap.size W w' ∧ PolyV w' (vP m) (some l0)) from
                (Of_any 0 vc [xv, -yv] W hc (by simp) (by omega)).mono (by
                  rintro e w' ⟨v', rfl, h1, h2⟩
                  unfold ofP at h1
                  rw [if_pos HOFB.out, ← HOFL.out] at h1
                  obtain ⟨bq, Aq, nq, cq, rfl, -, -⟩ := h1.parts
                  exact ⟨(bq, Aq, nq, cq), rfl, h2, h1⟩)))
              have HKP := Lib.hid (kp_pol (p := some l0) vP HOWN.out (by decide))
              have HNE := Lib.hid (HOWN.out.apartT HOU.out (by decide))
              have HGI := Lib.hid (show (es.map vS ++ vS (As, ns, cs) :: List.replicate (n - (ix + 1)) (.slice none 0 0))[ix]? = some (.slice As ns cs) by rw [List.getElem?_append_right (by simp [HWE.out.1]), List.length_map, HWE.out.1, Nat.sub_self]; rfl)
              have HLL := Lib.hid (show ts.length ≤ 100000000 by rw [HTS.out]; simp; omega)
              clear hts hown hE hej
              go_upto_region 14 with fail
              refine wp_region_factsU (by kernel_rfl) (by kernel_rfl) (by kernel_rfl) (by kernel_rfl) (by kernel_rfl) (ApC 40 2 eP wo.heap.size wd (fun i => ([some (.slice (some ⟨gE, 0, none⟩) n n), some (.int .i64 (ix : Int)), some (.slice (some ⟨gE, 0, none⟩) n n), some (.int .i64 (ix : Int)), some (.pointer (some ⟨gE, ix, none⟩)), some (.slice As ns cs), some (.slice (some ⟨b1, o1, none⟩) n c), some (.int .i64 (ix : Int)), some (.pointer (some ⟨b1, o1 + ix, none⟩)), some (.slice (some ⟨b2, o2, none⟩) n c2), some (.int .i64 (jx : Int)), some (.pointer (some ⟨b2, o2 + jx, none⟩)), some (.int .i64 xv), some (.slice (some ⟨b1, o1, none⟩) n c), some (.int .i64 (jx : Int)), some (.pointer (some ⟨b1, o1 + jx, none⟩)), some (.slice (some ⟨b3, o3, none⟩) n c3), some (.int .i64 (ix : Int)), some (.pointer (some ⟨b3, o3 + ix, none⟩)), some (.int .i64 yv), some (.int .i64 (-yv)), none, none, none, none, some (.pointer (some ⟨gE, ix, none⟩)), none] : List (Option Value)).getD i none) 21 22 23 24 26 (.slice As ns cs) (⟨gE, ix, none⟩) (ts) (fun m : PVt => .agg #[.bool m.1, .slice m.2.1 m.2.2.1 m.2.2.2]) (fun m w => PolyV w (vP m) (some l0)) (fun v w => Ints w v [xv, -yv])) (fun x => ApC.start) ⟨?_, ?_, ?_, ?_, ?_, ?_, ?_, ?_, ?_, ?_, ?_, ?_, ?_, ?_, ?_, ?_, ?_, ?_, ?_, ?_, ?_, ?_, ?_, ?_, ?_, ?_, ?_, trivial⟩ ?_
              · intro D x w1 bA hI hD hdep hcl hb
                have e4 : bA.tmps[4]?.getD undef = .slice (some ⟨gE, 0, none⟩) n n := hb 4
                refine wp_of_run (.slice (some ⟨gE, 0, none⟩) n n) (w' := w1) ?_ (hI.val rfl (by decide) (by decide) (by decide) (by decide) (by decide))
                clear hb hI hdep hcl
                go_simp
              · intro D x w1 bA hI hD hdep hcl hb
                have e5 : bA.tmps[5]?.getD undef = .int .i64 (ix : Int) := hb 5
                refine wp_of_run (.int .i64 (ix : Int)) (w' := w1) ?_ (hI.val rfl (by decide) (by decide) (by decide) (by decide) (by decide))
                clear hb hI hdep hcl
                go_simp
              · intro D x w1 bA hI hD hdep hcl hb
                have e4 : bA.tmps[4]?.getD undef = .slice (some ⟨gE, 0, none⟩) n n := hb 4
                refine wp_of_run (.slice (some ⟨gE, 0, none⟩) n n) (w' := w1) ?_ (hI.val rfl (by decide) (by decide) (by decide) (by decide) (by decide))
                clear hb hI hdep hcl
                go_simp
              · intro D x w1 bA hI hD hdep hcl hb
                have e5 : bA.tmps[5]?.getD undef = .int .i64 (ix : Int) := hb 5
                refine wp_of_run (.int .i64 (ix : Int)) (w' := w1) ?_ (hI.val rfl (by decide) (by decide) (by decide) (by decide) (by decide))
                clear hb hI hdep hcl
                go_simp
              · intro D x w1 bA hI hD hdep hcl hb
                have e36 : bA.tmps[36]?.getD undef = .slice (some ⟨gE, 0, none⟩) n n := (hb 36).trans (hI.kn 2 _ rfl (hdep 2 (by decide)))
                have e37 : bA.tmps[37]?.getD undef = .int .i64 (ix : Int) := (hb 37).trans (hI.kn 3 _ rfl (hdep 3 (by decide)))
                refine wp_of_run (.pointer (some ⟨gE, ix, none⟩)) (w' := w1) ?_ (hI.val rfl (by decide) (by decide) (by decide) (by decide) (by decide))
                clear hb hI hdep hcl
                go_simp
              · intro D x w1 bA hI hD hdep hcl hb
                have hq24 : D 24 = false := by cases h : D 24 with | false => rfl | true => (have := hcl 24 h 5 (by decide); rw [hD] at this; cases this)
                have hqf : D 26 = false := by cases h : D 26 with | false => rfl | true => (have := hcl 26 h 24 (by decide); rw [hq24] at this; cases this)
                have hpre := hI.pre hq24 hqf
                have e38 : bA.tmps[38]?.getD undef = .pointer (some ⟨gE, ix, none⟩) := (hb 38).trans (hI.kn 4 _ rfl (hdep 4 (by decide)))
                have cc := (HOU.out.below hpre HOU.out.lt).cell ix
                rw [HGI.out] at cc
                refine wp_of_run (.slice As ns cs) (w' := w1) ?_ (hI.val rfl (by decide) (by decide) (by decide) (by decide) (by decide))
                clear hb hI hdep hcl
                go_simp
              · intro D x w1 bA hI hD hdep hcl hb
                have e0 : bA.tmps[0]?.getD undef = .slice (some ⟨b1, o1, none⟩) n c := hb 0
                refine wp_of_run (.slice (some ⟨b1, o1, none⟩) n c) (w' := w1) ?_ (hI.val rfl (by decide) (by decide) (by decide) (by decide) (by decide))
                clear hb hI hdep hcl
                go_simp
              · intro D x w1 bA hI hD hdep hcl hb
                have e5 : bA.tmps[5]?.getD undef = .int .i64 (ix : Int) := hb 5
                refine wp_of_run (.int .i64 (ix : Int)) (w' := w1) ?_ (hI.val rfl (by decide) (by decide) (by decide) (by decide) (by decide))
                clear hb hI hdep hcl
                go_simp
              · intro D x w1 bA hI hD hdep hcl hb
                have e40 : bA.tmps[40]?.getD undef = .slice (some ⟨b1, o1, none⟩) n c := (hb 40).trans (hI.kn 6 _ rfl (hdep 6 (by decide)))
                have e41 : bA.tmps[41]?.getD undef = .int .i64 (ix : Int) := (hb 41).trans (hI.kn 7 _ rfl (hdep 7 (by decide)))
                refine wp_of_run (.pointer (some ⟨b1, o1 + ix, none⟩)) (w' := w1) ?_ (hI.val rfl (by decide) (by decide) (by decide) (by decide) (by decide))
                clear hb hI hdep hcl
                go_simp
              · intro D x w1 bA hI hD hdep hcl hb
                have hq11 : D 11 = false := by cases h : D 11 with | false => rfl | true => (have := hcl 11 h 9 (by decide); rw [hD] at this; cases this)
                have hq12 : D 12 = false := by cases h : D 12 with | false => rfl | true => (have := hcl 12 h 11 (by decide); rw [hq11] at this; cases this)
                have hq21 : D 21 = false := by cases h : D 21 with | false => rfl | true => (have := hcl 21 h 12 (by decide); rw [hq12] at this; cases this)
                have hq22 : D 22 = false := by cases h : D 22 with | false => rfl | true => (have := hcl 22 h 21 (by decide); rw [hq21] at this; cases this)
                have hq23 : D 23 = false := by cases h : D 23 with | false => rfl | true => (have := hcl 23 h 22 (by decide); rw [hq22] at this; cases this)
                have hq24 : D 24 = false := by cases h : D 24 with | false => rfl | true => (have := hcl 24 h 23 (by decide); rw [hq23] at this; cases this)
                have hqf : D 26 = false := by cases h : D 26 with | false => rfl | true => (have := hcl 26 h 24 (by decide); rw [hq24] at this; cases this)
                have hpre := hI.pre hq24 hqf
                have e42 : bA.tmps[42]?.getD undef = .pointer (some ⟨b1, o1 + ix, none⟩) := (hb 42).trans (hI.kn 8 _ rfl (hdep 8 (by decide)))
                have hcc := HC.out w1 (HBD.out.trans (hpre.mono HBD.out.size))
                have cc := hcc.1
                clear hcc
                refine wp_of_run (.slice (some ⟨b2, o2, none⟩) n c2) (w' := w1) ?_ (hI.val rfl (by decide) (by decide) (by decide) (by decide) (by decide))
                clear hb hI hdep hcl
                go_simp
              · intro D x w1 bA hI hD hdep hcl hb
                have e6 : bA.tmps[6]?.getD undef = .int .i64 (jx : Int) := hb 6
                refine wp_of_run (.int .i64 (jx : Int)) (w' := w1) ?_ (hI.val rfl (by decide) (by decide) (by decide) (by decide) (by decide))
                clear hb hI hdep hcl
                go_simp
              · intro D x w1 bA hI hD hdep hcl hb
                have e43 : bA.tmps[43]?.getD undef = .slice (some ⟨b2, o2, none⟩) n c2 := (hb 43).trans (hI.kn 9 _ rfl (hdep 9 (by decide)))
                have e44 : bA.tmps[44]?.getD undef = .int .i64 (jx : Int) := (hb 44).trans (hI.kn 10 _ rfl (hdep 10 (by decide)))
                refine wp_of_run (.pointer (some ⟨b2, o2 + jx, none⟩)) (w' := w1) ?_ (hI.val rfl (by decide) (by decide) (by decide) (by decide) (by decide))
                clear hb hI hdep hcl
                go_simp
              · intro D x w1 bA hI hD hdep hcl hb
                have hq21 : D 21 = false := by cases h : D 21 with | false => rfl | true => (have := hcl 21 h 12 (by decide); rw [hD] at this; cases this)
                have hq22 : D 22 = false := by cases h : D 22 with | false => rfl | true => (have := hcl 22 h 21 (by decide); rw [hq21] at this; cases this)
                have hq23 : D 23 = false := by cases h : D 23 with | false => rfl | true => (have := hcl 23 h 22 (by decide); rw [hq22] at this; cases this)
                have hq24 : D 24 = false := by cases h : D 24 with | false => rfl | true => (have := hcl 24 h 23 (by decide); rw [hq23] at this; cases this)
                have hqf : D 26 = false := by cases h : D 26 with | false => rfl | true => (have := hcl 26 h 24 (by decide); rw [hq24] at this; cases this)
                have hpre := hI.pre hq24 hqf
                have e45 : bA.tmps[45]?.getD undef = .pointer (some ⟨b2, o2 + jx, none⟩) := (hb 45).trans (hI.kn 11 _ rfl (hdep 11 (by decide)))
                have hcc := HC.out w1 (HBD.out.trans (hpre.mono HBD.out.size))
                have cc := hcc.2.1
                clear hcc
                refine wp_of_run (.int .i64 xv) (w' := w1) ?_ (hI.val rfl (by decide) (by decide) (by decide) (by decide) (by decide))
                clear hb hI hdep hcl
                go_simp
              · intro D x w1 bA hI hD hdep hcl hb
                have e0 : bA.tmps[0]?.getD undef = .slice (some ⟨b1, o1, none⟩) n c := hb 0
                refine wp_of_run (.slice (some ⟨b1, o1, none⟩) n c) (w' := w1) ?_ (hI.val rfl (by decide) (by decide) (by decide) (by decide) (by decide))
                clear hb hI hdep hcl
                go_simp
              · intro D x w1 bA hI hD hdep hcl hb
                have e6 : bA.tmps[6]?.getD undef = .int .i64 (jx : Int) := hb 6
                refine wp_of_run (.int .i64 (jx : Int)) (w' := w1) ?_ (hI.val rfl (by decide) (by decide) (by decide) (by decide) (by decide))
                clear hb hI hdep hcl
                go_simp
              · intro D x w1 bA hI hD hdep hcl hb
                have e47 : bA.tmps[47]?.getD undef = .slice (some ⟨b1, o1, none⟩) n c := (hb 47).trans (hI.kn 13 _ rfl (hdep 13 (by decide)))
                have e48 : bA.tmps[48]?.getD undef = .int .i64 (jx : Int) := (hb 48).trans (hI.kn 14 _ rfl (hdep 14 (by decide)))
                refine wp_of_run (.pointer (some ⟨b1, o1 + jx, none⟩)) (w' := w1) ?_ (hI.val rfl (by decide) (by decide) (by decide) (by decide) (by decide))
                clear hb hI hdep hcl
                go_simp
              · intro D x w1 bA hI hD hdep hcl hb
                have hq18 : D 18 = false := by cases h : D 18 with | false => rfl | true => (have := hcl 18 h 16 (by decide); rw [hD] at this; cases this)
                have hq19 : D 19 = false := by cases h : D 19 with | false => rfl | true => (have := hcl 19 h 18 (by decide); rw [hq18] at this; cases this)
                have hq20 : D 20 = false := by cases h : D 20 with | false => rfl | true => (have := hcl 20 h 19 (by decide); rw [hq19] at this; cases this)
                have hq21 : D 21 = false := by cases h : D 21 with | false => rfl | true => (have := hcl 21 h 20 (by decide); rw [hq20] at this; cases this)
                have hq22 : D 22 = false := by cases h : D 22 with | false => rfl | true => (have := hcl 22 h 21 (by decide); rw [hq21] at this; cases this)
                have hq23 : D 23 = false := by cases h : D 23 with | false => rfl | true => (have := hcl 23 h 22 (by decide); rw [hq22] at this; cases this)
                have hq24 : D 24 = false := by cases h : D 24 with | false => rfl | true => (have := hcl 24 h 23 (by decide); rw [hq23] at this; cases this)
                have hqf : D 26 = false := by cases h : D 26 with | false => rfl | true => (have := hcl 26 h 24 (by decide); rw [hq24] at this; cases this)
                have hpre := hI.pre hq24 hqf
                have e49 : bA.tmps[49]?.getD undef = .pointer (some ⟨b1, o1 + jx, none⟩) := (hb 49).trans (hI.kn 15 _ rfl (hdep 15 (by decide)))
                have hcc := HC.out w1 (HBD.out.trans (hpre.mono HBD.out.size))
                have cc := hcc.2.2.1
                clear hcc
                refine wp_of_run (.slice (some ⟨b3, o3, none⟩) n c3) (w' := w1) ?_ (hI.val rfl (by decide) (by decide) (by decide) (by decide) (by decide))
                clear hb hI hdep hcl
                go_simp
              · intro D x w1 bA hI hD hdep hcl hb
                have e5 : bA.tmps[5]?.getD undef = .int .i64 (ix : Int) := hb 5
                refine wp_of_run (.int .i64 (ix : Int)) (w' := w1) ?_ (hI.val rfl (by decide) (by decide) (by decide) (by decide) (by decide))
                clear hb hI hdep hcl
                go_simp
              · intro D x w1 bA hI hD hdep hcl hb
                have e50 : bA.tmps[50]?.getD undef = .slice (some ⟨b3, o3, none⟩) n c3 := (hb 50).trans (hI.kn 16 _ rfl (hdep 16 (by decide)))
                have e51 : bA.tmps[51]?.getD undef = .int .i64 (ix : Int) := (hb 51).trans (hI.kn 17 _ rfl (hdep 17 (by decide)))
                refine wp_of_run (.pointer (some ⟨b3, o3 + ix, none⟩)) (w' := w1) ?_ (hI.val rfl (by decide) (by decide) (by decide) (by decide) (by decide))
                clear hb hI hdep hcl
                go_simp
              · intro D x w1 bA hI hD hdep hcl hb
                have hq20 : D 20 = false := by cases h : D 20 with | false => rfl | true => (have := hcl 20 h 19 (by decide); rw [hD] at this; cases this)
                have hq21 : D 21 = false := by cases h : D 21 with | false => rfl | true => (have := hcl 21 h 20 (by decide); rw [hq20] at this; cases this)
                have hq22 : D 22 = false := by cases h : D 22 with | false => rfl | true => (have := hcl 22 h 21 (by decide); rw [hq21] at this; cases this)
                have hq23 : D 23 = false := by cases h : D 23 with | false => rfl | true => (have := hcl 23 h 22 (by decide); rw [hq22] at this; cases this)
                have hq24 : D 24 = false := by cases h : D 24 with | false => rfl | true => (have := hcl 24 h 23 (by decide); rw [hq23] at this; cases this)
                have hqf : D 26 = false := by cases h : D 26 with | false => rfl | true => (have := hcl 26 h 24 (by decide); rw [hq24] at this; cases this)
                have hpre := hI.pre hq24 hqf
                have e52 : bA.tmps[52]?.getD undef = .pointer (some ⟨b3, o3 + ix, none⟩) := (hb 52).trans (hI.kn 18 _ rfl (hdep 18 (by decide)))
                have hcc := HC.out w1 (HBD.out.trans (hpre.mono HBD.out.size))
                have cc := hcc.2.2.2
                clear hcc
                refine wp_of_run (.int .i64 yv) (w' := w1) ?_ (hI.val rfl (by decide) (by decide) (by decide) (by decide) (by decide))
                clear hb hI hdep hcl
                go_simp
              · intro D x w1 bA hI hD hdep hcl hb
                have e53 : bA.tmps[53]?.getD undef = .int .i64 yv := (hb 53).trans (hI.kn 19 _ rfl (hdep 19 (by decide)))
                have zz := HYW.out
                refine wp_of_run (.int .i64 (-yv)) (w' := w1) ?_ (hI.val rfl (by decide) (by decide) (by decide) (by decide) (by decide))
                clear hb hI hdep hcl
                go_simp
              · intro D x w1 bA hI hD hdep hcl hb
                have hq22 : D 22 = false := by cases h : D 22 with | false => rfl | true => (have := hcl 22 h 21 (by decide); rw [hD] at this; cases this)
                have hq22 : D 22 = false := by cases h : D 22 with | false => rfl | true => (have := hcl 22 h 21 (by decide); rw [hD] at this; cases this)
                have hq23 : D 23 = false := by cases h : D 23 with | false => rfl | true => (have := hcl 23 h 22 (by decide); rw [hq22] at this; cases this)
                have hq24 : D 24 = false := by cases h : D 24 with | false => rfl | true => (have := hcl 24 h 23 (by decide); rw [hq23] at this; cases this)
                have hqf : D 26 = false := by cases h : D 26 with | false => rfl | true => (have := hcl 26 h 24 (by decide); rw [hq24] at this; cases this)
                have hpre := hI.pre hq24 hqf
                have e46 : bA.tmps[46]?.getD undef = .int .i64 xv := (hb 46).trans (hI.kn 12 _ rfl (hdep 12 (by decide)))
                have e54 : bA.tmps[54]?.getD undef = .int .i64 (-yv) := (hb 54).trans (hI.kn 20 _ rfl (hdep 20 (by decide)))
                refine wp_of_run (.slice (some ⟨w1.heap.size, 0, none⟩) 2 2) (w' := w1.alloc (.cells #[.int .i64 xv, .int .i64 (-yv)] 3)) ?_ (hI.lit_ (HKP.out) rfl (by decide) (by decide) (by decide) (by decide) hq22 hq24 hqf ((Below.refl _ _).alloc (Nat.le_refl _) _) (Ints.of_arr (xs := [xv, -yv]) (Arr.new w1 3 [.int .i64 xv, .int .i64 (-yv)])))
                clear hb hI hdep hcl
                go_simp
              · intro D x w1 bA hI hD hdep hcl hb
                have hq23 : D 23 = false := by cases h : D 23 with | false => rfl | true => (have := hcl 23 h 22 (by decide); rw [hD] at this; cases this)
                have hq23 : D 23 = false := by cases h : D 23 with | false => rfl | true => (have := hcl 23 h 22 (by decide); rw [hD] at this; cases this)
                have hq24 : D 24 = false := by cases h : D 24 with | false => rfl | true => (have := hcl 24 h 23 (by decide); rw [hq23] at this; cases this)
                have hqf : D 26 = false := by cases h : D 26 with | false => rfl | true => (have := hcl 26 h 24 (by decide); rw [hq24] at this; cases this)
                have hpre := hI.pre hq24 hqf
                have e55 : bA.tmps[55]?.getD undef = x 21 := hb 55
                have hxu := hI.aux (hdep 21 (by decide)) hD hq24 hqf
                generalize x 21 = xU at *
                refine wp_of_callA ?_ (((HOF.out w1 xU hxu)).mono (by rintro e w' ⟨m, rfl, hbw, hmm⟩; exact ⟨_, rfl, hI.call (HKP.out) rfl (by decide) (by decide) (by decide) hq23 hq24 hqf hbw hmm⟩))
                clear hb hI hdep hcl
                go_simp
              · intro D x w1 bA hI hD hdep hcl hb
                have hq24 : D 24 = false := by cases h : D 24 with | false => rfl | true => (have := hcl 24 h 23 (by decide); rw [hD] at this; cases this)
                have hqf : D 26 = false := by cases h : D 26 with | false => rfl | true => (have := hcl 26 h 24 (by decide); rw [hq24] at this; cases this)
                have e56 : bA.tmps[56]?.getD undef = x 22 := hb 56
                obtain ⟨⟨bm, Am, nm, cm⟩, hmx, hmp⟩ := hI.cal (hdep 22 (by decide)) hq24 hqf
                have hmk := hI.make (HKP.out) rfl (by decide) (by decide) (by decide) (hdep 22 (by decide)) hq24 hqf ((Below.refl _ _).alloc (Nat.le_refl _) _) hmp (OwnA.lit (xs := [⟨bm, Am, nm, cm⟩]) (fun y _ => elP.len y) (Nat.le_refl _) (by simp) (by simp))
                generalize x 22 = xK at *
                subst hmx
                refine wp_of_run (.slice (some ⟨w1.heap.size, 0, none⟩) 1 1) (w' := w1.alloc (.cells #[.bool bm, .slice Am nm cm] 40)) ?_ hmk
                clear hmk hmp
                clear hb hI hdep hcl
                go_simp
              · intro D x w1 bA hI hD hdep hcl hb
                have hqf : D 26 = false := by cases h : D 26 with | false => rfl | true => (have := hcl 26 h 24 (by decide); rw [hD] at this; cases this)
                have e39 : bA.tmps[39]?.getD undef = .slice As ns cs := (hb 39).trans (hI.kn 5 _ rfl (hdep 5 (by decide)))
                have e57 : bA.tmps[57]?.getD undef = x 23 := hb 57
                exact hI.app elP (HKP.out) (.tmp 39) (.tmp 57) 61 61 rfl Tryz.underlying61 Tryz.underlying61 rfl (by decide) (by decide) (by decide) (hdep 23 (by decide)) hD hqf (by simpa [Act.eval] using e39) (by simpa [Act.eval] using e57) (HOWN.out) (HSZ.out) (HLL.out)
              · intro D x w1 bA hI hD hdep hcl hb
                have e34 : bA.tmps[34]?.getD undef = .slice (some ⟨gE, 0, none⟩) n n := (hb 34).trans (hI.kn 0 _ rfl (hdep 0 (by decide)))
                have e35 : bA.tmps[35]?.getD undef = .int .i64 (ix : Int) := (hb 35).trans (hI.kn 1 _ rfl (hdep 1 (by decide)))
                refine wp_of_run (.pointer (some ⟨gE, ix, none⟩)) (w' := w1) ?_ (hI.val rfl (by decide) (by decide) (by decide) (by decide) (by decide))
                clear hb hI hdep hcl
                go_simp
              · intro D x w1 bA hI hD hdep hcl hb
                have hda : D 24 = true := hdep 24 (by decide)
                have e59 : bA.tmps[59]?.getD undef = .pointer (some ⟨gE, ix, none⟩) := (hb 59).trans (hI.kn 25 _ rfl (hdep 25 (by decide)))
                have e58 : bA.tmps[58]?.getD undef = x 24 := hb 58
                have hst := hI.store rfl hda hD undef
                obtain ⟨mF, hm0, hm1, hm2⟩ := hI.mid hda hD
                have qarr := hm2.arr (HOU.out) (HNE.out)
                have qy := qarr.cell ix
                have qf := qarr.frozen ix
                rw [HGI.out] at qy
                obtain ⟨AF, cF, eF⟩ := hm1.form
                generalize x 24 = xA at *
                subst eF
                refine wp_of_skip ?_ hst
                clear hb hI hdep hcl hst hm0 hm1 hm2 qarr
                go_simp
              intro D x w1 hI hall
              obtain ⟨wS, vZ, mS, hwS, hpsiS, hownS, hkptS⟩ := hI.fin (hall 26 (by simp))
              have x0e : x 0 = .slice (some ⟨gE, 0, none⟩) n n := hI.kn 0 _ rfl (hall 0 (by simp))
              have x1e : x 1 = .int .i64 (ix : Int) := hI.kn 1 _ rfl (hall 1 (by simp))
              have x2e : x 2 = .slice (some ⟨gE, 0, none⟩) n n := hI.kn 2 _ rfl (hall 2 (by simp))
              have x3e : x 3 = .int .i64 (ix : Int) := hI.kn 3 _ rfl (hall 3 (by simp))
              have x4e : x 4 = .pointer (some ⟨gE, ix, none⟩) := hI.kn 4 _ rfl (hall 4 (by simp))
              have x5e : x 5 = .slice As ns cs := hI.kn 5 _ rfl (hall 5 (by simp))
              have x6e : x 6 = .slice (some ⟨b1, o1, none⟩) n c := hI.kn 6 _ rfl (hall 6 (by simp))
              have x7e : x 7 = .int .i64 (ix : Int) := hI.kn 7 _ rfl (hall 7 (by simp))
              have x8e : x 8 = .pointer (some ⟨b1, o1 + ix, none⟩) := hI.kn 8 _ rfl (hall 8 (by simp))
              have x9e : x 9 = .slice (some ⟨b2, o2, none⟩) n c2 := hI.kn 9 _ rfl (hall 9 (by simp))
              have x10e : x 10 = .int .i64 (jx : Int) := hI.kn 10 _ rfl (hall 10 (by simp))
              have x11e : x 11 = .pointer (some ⟨b2, o2 + jx, none⟩) := hI.kn 11 _ rfl (hall 11 (by simp))
              have x12e : x 12 = .int .i64 xv := hI.kn 12 _ rfl (hall 12 (by simp))
              have x13e : x 13 = .slice (some ⟨b1, o1, none⟩) n c := hI.kn 13 _ rfl (hall 13 (by simp))
              have x14e : x 14 = .int .i64 (jx : Int) := hI.kn 14 _ rfl (hall 14 (by simp))
              have x15e : x 15 = .pointer (some ⟨b1, o1 + jx, none⟩) := hI.kn 15 _ rfl (hall 15 (by simp))
              have x16e : x 16 = .slice (some ⟨b3, o3, none⟩) n c3 := hI.kn 16 _ rfl (hall 16 (by simp))
              have x17e : x 17 = .int .i64 (ix : Int) := hI.kn 17 _ rfl (hall 17 (by simp))
              have x18e : x 18 = .pointer (some ⟨b3, o3 + ix, none⟩) := hI.kn 18 _ rfl (hall 18 (by simp))
              have x19e : x 19 = .int .i64 yv := hI.kn 19 _ rfl (hall 19 (by simp))
              have x20e : x 20 = .int .i64 (-yv) := hI.kn 20 _ rfl (hall 20 (by simp))
              have x25e : x 25 = .pointer (some ⟨gE, ix, none⟩) := hI.kn 25 _ rfl (hall 25 (by simp))
              simp only [putAll, dstOf, Act.put, List.map_cons, List.map_nil, List.setIfInBounds_toArray, List.set_cons_succ, List.set_cons_zero, Nat.reduceAdd, x0e, x1e, x2e, x3e, x4e, x5e, x6e, x7e, x8e, x9e, x10e, x11e, x12e, x13e, x14e, x15e, x16e, x17e, x18e, x19e, x20e, x25e]
              clear x0e x1e x2e x3e x4e x5e x6e x7e x8e x9e x10e x11e x12e x13e x14e x15e x16e x17e x18e x19e x20e x25e hI hall
              generalize x 24 = xA, x 23 = xC, x 22 = xK, x 21 = xU
              obtain ⟨s', hvs, hej⟩ := GnJ.next HWE.out.1 HTS.out HOU.out HWR6.out HWE.out.2 HOWN.out HE6.out hownS hpsiS hkptS
              rw [← HRT.out] at hej
              rw [← hwS] at hej
              have HEJ2 := Lib.hid hej
              clear hwS hpsiS hownS hkptS hvs hej
              go_wp2_with fail
              go_roundg (n - (jx + 1))
              case measure => omega
              case rel => exact ⟨jx + 1, s', by omega, rfl, by go_num, HEJ2.out⟩
            · have z2 : ¬ ((jx : Int) < (n : Int)) := by omega
              rw [List.take_of_length_le (show (alR m ix).length ≤ jx by rw [alR_length, ← HN.out]; omega)] at hej
              have HCL := Lib.hid (hej.close HEN.out HTM.out HBO.out.size)
              have HWN := Lib.hid (HWR.out.trans hej.wr)
              clear hej
              go_wp2_with fail
              go_roundg (n - (ix + 1))
              case measure => omega
              case rel => exact ⟨ix + 1, _, by omega, rfl, by go_num, HCL.out, HWN.out⟩
        · have z1 : ¬ ((ix : Int) < (n : Int)) := by omega
          have e7 : ix = n := by omega
          rw [e7] at HEN
          have HMQ := Lib.hid (HEN.out.end_ (by rw [alM_length, HN.out]))
          have HBQ := Lib.hid (HB6.out.trans (HWR.out.below (B := w3.heap.size) HB6.out.size (fun x hx => by rw [List.mem_singleton.1 hx]; exact HGE.out.2)))
          obtain ⟨f1, f2, f3, f4, f5⟩ := alM_facts HSM.out.symm (by rw [← HN.out]; exact hn)
          have hlm : (alM m).length ≤ 64 := by rw [alM_length, ← HN.out]; omega
          have HDT := Lib.hid ((Det_any _ (alM m) wo HMQ.out hlm f1 f2 f3 (HT.out.below HBO.out) f4).mono (fun e w' hd => hd.v (B := 0) hlm f1 f2 f3 f5))
          clear e7 HEN HWR f1 f2 f3 f4 f5 hlm HMQ HM
          go_upto_region 17 with fail
          go_wp2_with fail
          refine HDT.out.mono ?_
          rintro e w7 ⟨hb7, hd⟩
          rw [Nat.mul_zero] at hd
          have HB7 := Lib.hid (HBQ.out.trans (hb7.mono HBQ.out.size))
          have HBW7 := Lib.hid (HBO.out.trans (hb7.mono HBO.out.size))
          clear hb7 HDT HBQ HBO
          rcases hd with ⟨v7, p, rfl, hp, hcn, hlm, hlo, hev⟩ | ⟨rfl, hno⟩
          · have HR := Lib.hid (show Can p ∧ Lim p ∧ (∀ t ∈ p, 0 ≤ t.1) ∧ ∀ x, 1 ≤ x → evQ 0 x p = detE 0 (alM m) x from ⟨hcn, hlm, fun t ht => by have := hlo t ht; simpa using this, hev⟩)
            have HNO := Lib.hid (fun W v (h : PolyV W v (some p)) => Normal_any v (some p) W h ⟨hcn, hlm⟩)
            obtain ⟨b5, A5, n5, c5, rfl, j5, j6⟩ := hp.parts
            have hal := (Below.refl w7.heap.size w7).alloc (Nat.le_refl _) (.cells #[.bool b5, .slice A5 n5 c5] 40)
            have HP8 := Lib.hid (hp.below hal)
            have HB8 := Lib.hid (HB7.out.trans (hal.mono HB7.out.size))
            have HBW8 := Lib.hid (HBW7.out.trans (hal.mono HBW7.out.size))
            have HT8 := Lib.hid (show Arr (w7.alloc (.cells #[.bool b5, .slice A5 n5 c5] 40)) w7.heap.size 40 [.bool b5, .slice A5 n5 c5] from Arr.new w7 40 [_, _])
            clear hal hp hcn hlm hlo hev j5 j6 HB7 HBW7
            go_upto_region 18 with fail
            generalize w7.alloc (.cells #[.bool b5, .slice A5 n5 c5] 40) = w8 at *
            generalize w7.heap.size = tb at *
            have y0 := HT8.out.cell 0
            have y1 := HT8.out.cell 1
            have HNX := Lib.hid (HNO.out _ _ HP8.out)
            go_wp2_with fail
            refine HNX.out.mono ?_
            rintro e w9 ⟨v9, rfl, hv9, hb9⟩
            have qr := HQR.out _ (HB8.out.trans (hb9.mono HB8.out.size))
            have HBF := Lib.hid (HBW8.out.trans (hb9.mono HBW8.out.size))
            have HV9 := Lib.hid (fun u1 u2 => hv9.box qr u1 u2)
            obtain ⟨b6, A6, n6, c6, rfl, j5, j6⟩ := hv9.parts
            clear y0 y1 hb9 HNX HNO HT8 HP8 HB8 HBW8 hv9 j5 j6
            have x0 := qr.cell 0
            have x1 := qr.cell 1
            have f0_ := qr.frozen 0
            have f1_ := qr.frozen 1
            have hres := Lib.hid ((qr.set 0 (.bool b6)).set 1 (.slice A6 n6 c6))
            clear qr
            go_wp2_with fail
            refine bodyPost_ret (v := .tuple #[.agg #[.bool b6, .slice A6 n6 c6], .int .i64 0]) (results_ct Tryz.results15 _ _ w.heap.size 40 _ _ rfl hres.out Tryz.underlying40 rfl info_poly) rfl ?_
            exact ⟨(HBF.out.setCell (p := ⟨w.heap.size, 0, none⟩) (Nat.le_refl _) _).setCell (p := ⟨w.heap.size, 1, none⟩) (Nat.le_refl _) _, .inr (.inr ⟨HSQ.out.symm, HSM.out.symm, .inl ⟨_, p, rfl, HV9.out _ _, HR.out⟩⟩)⟩
          · have HR := Lib.hid (show ∀ D, Can D → Lim D → (∀ t ∈ D, 0 ≤ t.1) → (∀ x, 1 ≤ x → evQ 0 x D = detE 0 (alM m) x) → False from fun D h1 h2 h3 h4 => hno D h1 h2 (fun t ht => by have := h3 t ht; simpa using this) h4)
            have hal := (Below.refl w7.heap.size w7).alloc (Nat.le_refl _) (.cells #[.bool false, .slice none 0 0] 40)
            have qr := HQR.out _ (HB7.out.trans (hal.mono HB7.out.size))
            have HBF := Lib.hid (HBW7.out.trans (hal.mono HBW7.out.size))
            have x0 := qr.cell 0
            have x1 := qr.cell 1
            have f0 := qr.frozen 0
            have f1 := qr.frozen 1
            have hres := Lib.hid ((qr.set 0 (.bool false)).set 1 (.slice none 0 0))
            clear qr hal hno
            go_wp2_with fail
            refine bodyPost_ret (v := .tuple #[.agg #[.bool false, .slice none 0 0], .int .i64 9]) (results_ct Tryz.results15 _ _ w.heap.size 40 _ _ rfl hres.out Tryz.underlying40 rfl info_poly) rfl ?_
            exact ⟨(HBF.out.setCell (p := ⟨w.heap.size, 0, none⟩) (Nat.le_refl _) _).setCell (p := ⟨w.heap.size, 1, none⟩) (Nat.le_refl _) _, .inr (.inr ⟨HSQ.out.symm, HSM.out.symm, .inr ⟨rfl, HR.out⟩⟩)⟩
end Go.Proofs.YtbkgpfalljgdcaaGreatDoor
