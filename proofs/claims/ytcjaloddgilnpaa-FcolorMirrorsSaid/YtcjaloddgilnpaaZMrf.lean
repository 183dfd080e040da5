/- mirror.move: rev. -/
/- mirror.move: ref. -/
import Derived.Test.YtcjaloddgilnpaaZMrp
import Derived.BigRegion
import Derived.Test.YtcjaloddgilnpaaZTab
import Derived.Deep.RegionWith
namespace Go.Proofs.Ytcjaloddgilnpaa
open Go.RowKit
set_option linter.unusedVariables false

set_option maxHeartbeats 4000000 in
set_option maxRecDepth 100000 in
theorem move_rev (vs vm : Value) (S M : List Int) (L : Int) (w : World) (hS : Ints w vs S) (hM : Ints w vm M) (HK : Hid (Ok S M L)) :
    Calls Try.prog 53 #[.agg #[vs, vm, .int .i64 L], .func (.func 55) #[] #[], .func (.func 56) #[] #[]] w fun e w' => ∃ gs gm, e = .returned (.agg #[.slice (some ⟨gs, 0, none⟩) S.length S.length, .slice (some ⟨gm, 0, none⟩) M.length M.length, .int .i64 L]) ∧ w.heap.size ≤ gs ∧ w.heap.size ≤ gm ∧ Arr w' gs 3 (ic S) ∧ Arr w' gm 3 (ic (relL (4 * S.length) revT revT M)) ∧ Below w.heap.size w w' := by
  obtain ⟨i0, hi0, hz0, hz1, hz2⟩ := info_parts info_int
  have hn := HK.out.n
  have hml : M.length ≤ 256 := by have := HK.out.m; omega
  have hmk1 := fun W => run_make_one (P := Try.prog) 22 3 i0 (.int .i64 0) Try.underlying22 hi0 hz0 hz1 rfl (by rw [hz2]; decide) S.length (by omega) W
  have hmk2 := fun W => run_make_one (P := Try.prog) 22 3 i0 (.int .i64 0) Try.underlying22 hi0 hz0 hz1 rfl (by rw [hz2]; decide) M.length (by omega) W
  have MK := Lib.hid (And.intro hmk1 hmk2)
  have HTO := Lib.hid (fun W h (hh : h < 1000) (hc : h / 4 < S.length) (hb : Below w.heap.size w W) (y : W.cell? ⟨w.heap.size + 1, 0, none⟩ = some (.func (.func 55) #[] #[])) => to_rev h (w.heap.size + 1) W hh y)
  have HSG := Lib.hid (fun (a0 : Int) W (hb : Below w.heap.size w W) => revSg a0 W)
  have HSS := Lib.hid (fun W (hb : Below w.heap.size w W) => hS.below hb)
  have HMM := Lib.hid (fun W (hb : Below w.heap.size w W) => hM.below hb)
  obtain ⟨A, c, rfl, hc, hx⟩ := hS
  obtain ⟨A2, c2, rfl, hc2, hx2⟩ := hM
  clear hx hx2 hmk1 hmk2
  have hW : ∀ W, W = ((w.alloc (.cells #[.slice A S.length c, .slice A2 M.length c2, .int .i64 L] 24)).alloc (.cells #[.func (.func 55) #[] #[]] 38)).alloc (.cells #[.slice none 0 0, .slice none 0 0, .int .i64 0] 24) → Arr W w.heap.size 24 [.slice A S.length c, .slice A2 M.length c2, .int .i64 L] ∧ Arr W (w.heap.size + 1) 38 [.func (.func 55) #[] #[]] ∧ Arr W (w.heap.size + 2) 24 [.slice none 0 0, .slice none 0 0, .int .i64 0] ∧ Below w.heap.size w W ∧ W.heap.size = w.heap.size + 3 := by
    intro W hW
    subst hW
    exact ⟨((Arr.new _ _ [_, _, _]).alloc _).alloc _, (Arr.newAt (w.alloc _) _ [_] _ (by simp)).alloc _, Arr.newAt ((w.alloc _).alloc _) _ [_, _, _] _ (by simp), (((Below.refl _ _).alloc (Nat.le_refl _) _).alloc (by simp) _).alloc (by simp <;> omega) _, by simp⟩
  go_enter Try.func53, Try.ntmps53
  go_upto_region 2 with fail
  generalize (((w.alloc (.cells #[.slice A S.length c, .slice A2 M.length c2, .int .i64 L] 24)).alloc (.cells #[.func (.func 55) #[] #[]] 38)).alloc (.cells #[.slice none 0 0, .slice none 0 0, .int .i64 0] 24)) = w3 at hW ⊢
  obtain ⟨q3, b3, r3, hb3, hs3⟩ := hW w3 rfl
  clear hW
  have y0 := q3.cell 0
  have y1 := q3.cell 1
  have y2 := q3.cell 2
  obtain ⟨hmk1, hmk2⟩ := MK.out
  have lD : w.heap.size < w3.heap.size := by omega
  go_cut [8] (fun s8 wx => ∃ g gs gm : Nat, s8 = .pointer (some ⟨g, 0, none⟩) ∧ Arr wx g 24 [.slice (some ⟨gs, 0, none⟩) S.length S.length, .slice (some ⟨gm, 0, none⟩) M.length M.length, .int .i64 L] ∧ Arr wx gs 3 (List.replicate S.length (Value.int .i64 0)) ∧ Arr wx gm 3 (List.replicate M.length (Value.int .i64 0)) ∧ w3.heap.size ≤ g ∧ w3.heap.size ≤ gs ∧ w3.heap.size ≤ gm ∧ g ≠ gs ∧ g ≠ gm ∧ gs ≠ gm ∧ Below w3.heap.size w3 wx)
  case first =>
    clear hmk1 hmk2
    obtain ⟨hmk1, hmk2⟩ := MK.out
    go_region
    all_goals
      go_wp2_with fail
      go_meet
      exact ⟨_, _, _, rfl, (by first | exact (three_new hs3 _ _ _).1 | exact (three_new hs3 _ _ _).2.1 | exact (three_new hs3 _ _ _).2.2), (by first | exact (three_new hs3 _ _ _).1 | exact (three_new hs3 _ _ _).2.1 | exact (three_new hs3 _ _ _).2.2), (by first | exact (three_new hs3 _ _ _).1 | exact (three_new hs3 _ _ _).2.1 | exact (three_new hs3 _ _ _).2.2), by omega, by omega, by omega, by omega, by omega, by omega, (three_below _ _ _).drew⟩
  case rest =>
    obtain ⟨g, gs, gm, rfl, r5, s5, m5, lg, lgs, lgm, n1, n2, n3, hb5⟩ := hcut
    clear hmk1 hmk2 MK y0 y1 y2
    rw [← fnC_zero] at s5 m5
    have q5 := q3.below hb5 q3.lt
    have b5 := b3.below hb5 b3.lt
    have e5 := r3.below hb5 r3.lt
    have hbw := hb3.trans (hb5.mono hb3.size)
    rw [hs3] at lg lgs lgm
    clear q3 b3 r3 hb3 hb5 hs3 lD
    have y0 := q5.cell 0
    go_wp2_with fail
    clear y0
    go_loopg [28] S.length (fun gk s28 wr => ∃ (k : Nat) (F : Nat → Int), k ≤ S.length ∧ gk = S.length - k ∧ s28 = .int .i64 (k : Int) ∧ (∀ i, i < k → F i = gi S i) ∧ Arr wr gs 3 (fnC S.length F) ∧ Arr wr g 24 [.slice (some ⟨gs, 0, none⟩) S.length S.length, .slice (some ⟨gm, 0, none⟩) M.length M.length, .int .i64 L] ∧ Arr wr gm 3 (fnC M.length fun _ => 0) ∧ Arr wr w.heap.size 24 [.slice A S.length c, .slice A2 M.length c2, .int .i64 L] ∧ Arr wr (w.heap.size + 1) 38 [.func (.func 55) #[] #[]] ∧ Arr wr (w.heap.size + 2) 24 [.slice none 0 0, .slice none 0 0, .int .i64 0] ∧ Below w.heap.size w wr)
    case atStart => exact ⟨0, _, Nat.zero_le _, rfl, rfl, fun i hi => absurd hi (Nat.not_lt_zero _), s5, r5, m5, q5, b5, e5, hbw⟩
    case round =>
      clear s5 r5 m5 q5 b5 e5 hbw
      obtain ⟨k, F, hk, rfl, rfl, hF, s5, r5, m5, q5, b5, e5, hbw⟩ := hrel
      by_cases hlt : k < S.length
      · have z1 : (k : Int) < (S.length : Int) := by omega
        obtain ⟨b, o, hA, hbl, hcell⟩ := (HSS.out wr hbw).at_ hlt
        have hsg := HK.out.sg k hlt
        have hgi : gi S k = S[k] := by unfold gi; rw [List.getElem?_eq_getElem hlt]; rfl
        generalize S[k] = sv at *
        have v1 : -1 ≤ sv := by omega
        have v2 : sv ≤ 1 := by omega
        have HF := Lib.hid hF
        have HGI := Lib.hid hgi
        clear hF hgi hsg
        subst hA
        go_upto_region 6 with fail
        have y0 := r5.cell 0
        have y1 := (s5.cell k).trans (fnC_get hlt)
        have y2 := s5.frozen k
        go_region_with (go_at_call 56; refine (HSG.out _ _ (by first | exact hbw | exact hbw.drew | exact hbw.drew.drew)).mono ?_; rintro e w7 ⟨rfl, rfl⟩)
        clear y0 y1 y2
        all_goals
          go_wp2_with fail
          go_roundg (S.length - (k + 1))
          case measure => omega
          case rel =>
            exact ⟨k + 1, fun j => if j = k then sv else F j, by omega, rfl, by go_num, fun i hi => (by
              by_cases e : i = k
              · subst e; show (if i = i then sv else F i) = _; rw [if_pos rfl, HGI.out]
              · show (if i = k then sv else F i) = _; rw [if_neg e]; exact HF.out i (by omega)), (by have h := s5.set k (.int .i64 (sv)); rw [fnC_set F hlt] at h; exact h.drew), (r5.far (p := ⟨gs, k, none⟩) n1 _).drew, (m5.far (p := ⟨gs, k, none⟩) n3.symm _).drew, (q5.far (p := ⟨gs, k, none⟩) (by show w.heap.size ≠ gs; omega) _).drew, (b5.far (p := ⟨gs, k, none⟩) (by show w.heap.size + 1 ≠ gs; omega) _).drew, (e5.far (p := ⟨gs, k, none⟩) (by show w.heap.size + 2 ≠ gs; omega) _).drew, (hbw.setCell (p := ⟨gs, k, none⟩) (by show w.heap.size ≤ gs; omega) _).drew⟩
      · have z1 : ¬ ((k : Int) < (S.length : Int)) := by omega
        have HF := Lib.hid (show ∀ i, i < S.length → F i = gi S i from fun i hi => hF i (by omega))
        have hkn : k = S.length := by omega
        clear hF hlt
        have y1 := q5.cell 1
        go_wp2_with fail
        clear y1 z1
        obtain ⟨wo, rfl⟩ : ∃ wo, wo = wr := ⟨_, rfl⟩
        go_loopg [46] M.length (fun gk s46 wi => ∃ (t : Nat) (G : Nat → Int), t ≤ M.length ∧ gk = M.length - t ∧ s46 = .int .i64 (t : Int) ∧ (∀ h, h < t → G (revT h) = ((revT (mt M h) : Nat) : Int)) ∧ Arr wi gs 3 (fnC S.length F) ∧ Arr wi g 24 [.slice (some ⟨gs, 0, none⟩) S.length S.length, .slice (some ⟨gm, 0, none⟩) M.length M.length, .int .i64 L] ∧ Arr wi gm 3 (fnC M.length G) ∧ Arr wi w.heap.size 24 [.slice A S.length c, .slice A2 M.length c2, .int .i64 L] ∧ Arr wi (w.heap.size + 1) 38 [.func (.func 55) #[] #[]] ∧ Arr wi (w.heap.size + 2) 24 [.slice none 0 0, .slice none 0 0, .int .i64 0] ∧ Below w.heap.size w wi)
        case atStart => exact ⟨0, _, Nat.zero_le _, rfl, rfl, fun i hi => absurd hi (Nat.not_lt_zero _), s5, r5, m5, q5, b5, e5, hbw⟩
        case round =>
          clear s5 r5 m5 q5 b5 e5 hbw
          obtain ⟨t, G, ht, rfl, rfl, hG, s5, r5, m5, q5, b5, e5, hbw⟩ := hrel
          by_cases hlt : t < M.length
          · have z1 : (t : Int) < (M.length : Int) := by omega
            obtain ⟨b, o, hA, hbl, hcell⟩ := mt_at (HMM.out _ hbw) hlt (HK.out.pos t hlt)
            have hm1 := HK.out.lt t hlt
            have hm4 := HK.out.m
            have d1 := revT_div t
            have d2 := revT_div (mt M t)
            have HT1 := Lib.hid (fun W hb y => HTO.out W t (by omega) (by omega) hb y)
            have HT2 := Lib.hid (fun W hb y => HTO.out W (mt M t) (by omega) (by omega) hb y)
            have HG := Lib.hid (show ∀ h, h < t + 1 → (fun j => if j = revT t then ((revT (mt M t) : Nat) : Int) else G j) (revT h) = ((revT (mt M h) : Nat) : Int) from fun h hh => by
              by_cases e : h = t
              · subst e; exact if_pos rfl
              · have e2 : revT h ≠ revT t := fun e3 => e (by rw [← revT_inv h, e3, revT_inv t])
                show (if revT h = revT t then ((revT (mt M t) : Nat) : Int) else G (revT h)) = _
                rw [if_neg e2]; exact hG h (by omega))
            obtain ⟨a, ha⟩ : ∃ a, a = revT t := ⟨_, rfl⟩
            obtain ⟨a2, ha2⟩ : ∃ a, a = revT (mt M t) := ⟨_, rfl⟩
            rw [← ha] at HT1 HG d1
            rw [← ha2] at HT2 HG
            have z2 : (a : Int) < (M.length : Int) := by omega
            have hla : a < M.length := by omega
            clear d1 d2 ha ha2 hm4 hG
            generalize mt M t = m at *
            clear hm1
            subst hA
            go_upto_region 11 with fail
            have y0 := r5.cell 1
            have y1 := (m5.cell a).trans (fnC_get hla)
            have y2 := m5.frozen a
            have y3 := b5.cell 0
            refine wp_region_table 9 (by kernel_rfl) (by kernel_rfl) (by kernel_rfl) (by kernel_rfl) (by kernel_rfl) rfl (by kernel_rfl) (fun i => [Value.pointer (some ⟨g, 1, none⟩), Value.slice (some ⟨gm, 0, none⟩) M.length M.length, Value.func (.func 73) #[] #[.pointer (some ⟨w.heap.size + 1, 0, none⟩)], Value.int .i64 (t : Int), Value.int .i64 (a : Int), Value.func (.func 73) #[] #[.pointer (some ⟨w.heap.size + 1, 0, none⟩)], Value.int .i64 (m : Int), Value.int .i64 (a2 : Int), Value.pointer (some ⟨gm, a, none⟩), undef].getD i undef) (fun W => W.setCell ⟨gm, a, none⟩ (.int .i64 (a2 : Int))) ⟨?_, ?_, ?_, ?_, ?_, ?_, ?_, ?_, ?_, ?_, trivial⟩ ?_
            · intro m0 b hb
              have e8 : b.tmps[8]?.getD undef = Value.pointer (some ⟨g, 0, none⟩) := hb 8 rfl
              refine tab_run (by decide) (Value.pointer (some ⟨g, 1, none⟩)) rfl ?_
              clear hb
              go_simp
            · intro m0 b hb
              have e51 : b.tmps[51]?.getD undef = Value.pointer (some ⟨g, 1, none⟩) := hb 51 rfl
              refine tab_run (by decide) (Value.slice (some ⟨gm, 0, none⟩) M.length M.length) rfl ?_
              clear hb
              go_simp
            · intro m0 b hb
              have e7 : b.tmps[7]?.getD undef = Value.func (.func 73) #[] #[.pointer (some ⟨w.heap.size + 1, 0, none⟩)] := hb 7 rfl
              refine tab_run (by decide) (Value.func (.func 73) #[] #[.pointer (some ⟨w.heap.size + 1, 0, none⟩)]) rfl ?_
              clear hb
              go_simp
            · intro m0 b hb
              have e11 : b.tmps[11]?.getD undef = Value.int .i64 (t : Int) := hb 11 rfl
              refine tab_run (by decide) (Value.int .i64 (t : Int)) rfl ?_
              clear hb
              go_simp
            · intro m0 b hb
              have e53 : b.tmps[53]?.getD undef = Value.func (.func 73) #[] #[.pointer (some ⟨w.heap.size + 1, 0, none⟩)] := hb 53 rfl
              have e54 : b.tmps[54]?.getD undef = Value.int .i64 (t : Int) := hb 54 rfl
              refine tab_call (by decide) (Value.int .i64 (a : Int)) rfl ?_ ((HT1.out _ (bdrewN hbw _) y3).mono fun e w' ⟨h, hw⟩ => ⟨0, h, hw.symm⟩)
              clear hb
              go_simp
            · intro m0 b hb
              have e7 : b.tmps[7]?.getD undef = Value.func (.func 73) #[] #[.pointer (some ⟨w.heap.size + 1, 0, none⟩)] := hb 7 rfl
              refine tab_run (by decide) (Value.func (.func 73) #[] #[.pointer (some ⟨w.heap.size + 1, 0, none⟩)]) rfl ?_
              clear hb
              go_simp
            · intro m0 b hb
              have e12 : b.tmps[12]?.getD undef = Value.int .i64 (m : Int) := hb 12 rfl
              refine tab_run (by decide) (Value.int .i64 (m : Int)) rfl ?_
              clear hb
              go_simp
            · intro m0 b hb
              have e56 : b.tmps[56]?.getD undef = Value.func (.func 73) #[] #[.pointer (some ⟨w.heap.size + 1, 0, none⟩)] := hb 56 rfl
              have e57 : b.tmps[57]?.getD undef = Value.int .i64 (m : Int) := hb 57 rfl
              refine tab_call (by decide) (Value.int .i64 (a2 : Int)) rfl ?_ ((HT2.out _ (bdrewN hbw _) y3).mono fun e w' ⟨h, hw⟩ => ⟨0, h, hw.symm⟩)
              clear hb
              go_simp
            · intro m0 b hb
              have e52 : b.tmps[52]?.getD undef = Value.slice (some ⟨gm, 0, none⟩) M.length M.length := hb 52 rfl
              have e55 : b.tmps[55]?.getD undef = Value.int .i64 (a : Int) := hb 55 rfl
              refine tab_run (by decide) (Value.pointer (some ⟨gm, a, none⟩)) rfl ?_
              clear hb
              go_simp
            · intro m0 b hb
              have e58 : b.tmps[58]?.getD undef = Value.int .i64 (a2 : Int) := hb 58 rfl
              have e59 : b.tmps[59]?.getD undef = Value.pointer (some ⟨gm, a, none⟩) := hb 59 rfl
              refine tab_store undef rfl _ rfl ?_ rfl
              clear hb
              go_simp
            intro m0
            simp only [putAll, dstOf, Act.put, List.map_cons, List.map_nil, List.setIfInBounds_toArray, List.set_cons_succ, List.set_cons_zero, Nat.reduceAdd, List.getD_cons_succ, List.getD_cons_zero]
            clear y0 y1 y2 y3
            go_wp2_with fail
            go_roundg (M.length - (t + 1))
            case measure => omega
            case rel =>
              exact ⟨t + 1, _, by omega, rfl, by go_num, HG.out, (s5.far (p := ⟨gm, a, none⟩) n3 _).drew, (r5.far (p := ⟨gm, a, none⟩) n2 _).drew, (by have h := m5.set a (.int .i64 (a2 : Int)); rw [fnC_set G hla] at h; exact h.drew), (q5.far (p := ⟨gm, a, none⟩) (by show w.heap.size ≠ gm; omega) _).drew, (b5.far (p := ⟨gm, a, none⟩) (by show w.heap.size + 1 ≠ gm; omega) _).drew, (e5.far (p := ⟨gm, a, none⟩) (by show w.heap.size + 2 ≠ gm; omega) _).drew, (bdrewN hbw _).setCell (p := ⟨gm, a, none⟩) (by show w.heap.size ≤ gm; omega) _⟩
          · have z1 : ¬ ((t : Int) < (M.length : Int)) := by omega
            have hm4 := HK.out.m
            have HI1 := Lib.hid (fun W (h : Arr W gs 3 (fnC S.length F)) => fnC_ic (xs := S) h (by simp) (fun i hi => (HF.out i hi).symm))
            have HI2 := Lib.hid (fun W (h : Arr W gm 3 (fnC M.length G)) => fnC_ic (xs := relL (4 * S.length) revT revT M) h (by rw [relL_length, hm4]) (fun i hi => by
              rw [relL_get (by omega)]
              have d := revT_div i
              have h1 := hG (revT i) (by omega)
              rw [revT_inv i] at h1
              exact h1.symm))
            have hres := Lib.hid (((e5.set 0 (.slice (some ⟨gs, 0, none⟩) S.length S.length)).set 1 (.slice (some ⟨gm, 0, none⟩) M.length M.length)).set 2 (.int .i64 L))
            have y0 := r5.cell 0
            have y1 := r5.cell 1
            have y2 := r5.cell 2
            have x0 := e5.cell 0
            have x1 := e5.cell 1
            have x2 := e5.cell 2
            have f0 := e5.frozen 0
            have f1 := e5.frozen 1
            have f2 := e5.frozen 2
            clear hG HF hm4
            go_wp2_with fail
            refine bodyPost_ret (v := .agg #[.slice (some ⟨gs, 0, none⟩) S.length S.length, .slice (some ⟨gm, 0, none⟩) M.length M.length, .int .i64 L]) (results_c Try.results53 _ _ (w.heap.size + 2) 24 _ _ rfl hres.out Try.underlying24 rfl info_diag) rfl ?_
            have ns : gs ≠ w.heap.size + 2 := by omega
            have nm : gm ≠ w.heap.size + 2 := by omega
            exact ⟨_, _, rfl, (by omega), (by omega), HI1.out _ (((s5.far (p := ⟨w.heap.size + 2, 0, none⟩) ns _).far (p := ⟨w.heap.size + 2, 1, none⟩) ns _).far (p := ⟨w.heap.size + 2, 2, none⟩) ns _), HI2.out _ (((m5.far (p := ⟨w.heap.size + 2, 0, none⟩) nm _).far (p := ⟨w.heap.size + 2, 1, none⟩) nm _).far (p := ⟨w.heap.size + 2, 2, none⟩) nm _), ((hbw.setCell (p := ⟨w.heap.size + 2, 0, none⟩) (by simp) _).setCell (p := ⟨w.heap.size + 2, 1, none⟩) (by simp) _).setCell (p := ⟨w.heap.size + 2, 2, none⟩) (by simp) _⟩
end Go.Proofs.Ytcjaloddgilnpaa

namespace Go.Proofs.Ytcjaloddgilnpaa
open Go.RowKit
set_option linter.unusedVariables false

set_option maxHeartbeats 4000000 in
set_option maxRecDepth 100000 in
theorem move_ref (vs vm : Value) (S M : List Int) (L : Int) (w : World) (hS : Ints w vs S) (hM : Ints w vm M) (HK : Hid (Ok S M L)) :
    Calls Try.prog 53 #[.agg #[vs, vm, .int .i64 L], .func (.func 52) #[] #[], .func (.func 54) #[] #[]] w fun e w' => ∃ gs gm, e = .returned (.agg #[.slice (some ⟨gs, 0, none⟩) S.length S.length, .slice (some ⟨gm, 0, none⟩) M.length M.length, .int .i64 L]) ∧ w.heap.size ≤ gs ∧ w.heap.size ≤ gm ∧ Arr w' gs 3 (ic (S.map fun s => -s)) ∧ Arr w' gm 3 (ic (relL (4 * S.length) refT refT M)) ∧ Below w.heap.size w w' := by
  obtain ⟨i0, hi0, hz0, hz1, hz2⟩ := info_parts info_int
  have hn := HK.out.n
  have hml : M.length ≤ 256 := by have := HK.out.m; omega
  have hmk1 := fun W => run_make_one (P := Try.prog) 22 3 i0 (.int .i64 0) Try.underlying22 hi0 hz0 hz1 rfl (by rw [hz2]; decide) S.length (by omega) W
  have hmk2 := fun W => run_make_one (P := Try.prog) 22 3 i0 (.int .i64 0) Try.underlying22 hi0 hz0 hz1 rfl (by rw [hz2]; decide) M.length (by omega) W
  have MK := Lib.hid (And.intro hmk1 hmk2)
  have HTO := Lib.hid (fun W h (hh : h < 1000) (hc : h / 4 < S.length) (hb : Below w.heap.size w W) (y : W.cell? ⟨w.heap.size + 1, 0, none⟩ = some (.func (.func 52) #[] #[])) => to_ref h (w.heap.size + 1) W hh y)
  have HSG := Lib.hid (fun (a0 : Int) W (hb : Below w.heap.size w W) => refSg a0 W)
  have HSS := Lib.hid (fun W (hb : Below w.heap.size w W) => hS.below hb)
  have HMM := Lib.hid (fun W (hb : Below w.heap.size w W) => hM.below hb)
  obtain ⟨A, c, rfl, hc, hx⟩ := hS
  obtain ⟨A2, c2, rfl, hc2, hx2⟩ := hM
  clear hx hx2 hmk1 hmk2
  have hW : ∀ W, W = ((w.alloc (.cells #[.slice A S.length c, .slice A2 M.length c2, .int .i64 L] 24)).alloc (.cells #[.func (.func 52) #[] #[]] 38)).alloc (.cells #[.slice none 0 0, .slice none 0 0, .int .i64 0] 24) → Arr W w.heap.size 24 [.slice A S.length c, .slice A2 M.length c2, .int .i64 L] ∧ Arr W (w.heap.size + 1) 38 [.func (.func 52) #[] #[]] ∧ Arr W (w.heap.size + 2) 24 [.slice none 0 0, .slice none 0 0, .int .i64 0] ∧ Below w.heap.size w W ∧ W.heap.size = w.heap.size + 3 := by
    intro W hW
    subst hW
    exact ⟨((Arr.new _ _ [_, _, _]).alloc _).alloc _, (Arr.newAt (w.alloc _) _ [_] _ (by simp)).alloc _, Arr.newAt ((w.alloc _).alloc _) _ [_, _, _] _ (by simp), (((Below.refl _ _).alloc (Nat.le_refl _) _).alloc (by simp) _).alloc (by simp <;> omega) _, by simp⟩
  go_enter Try.func53, Try.ntmps53
  go_upto_region 2 with fail
  generalize (((w.alloc (.cells #[.slice A S.length c, .slice A2 M.length c2, .int .i64 L] 24)).alloc (.cells #[.func (.func 52) #[] #[]] 38)).alloc (.cells #[.slice none 0 0, .slice none 0 0, .int .i64 0] 24)) = w3 at hW ⊢
  obtain ⟨q3, b3, r3, hb3, hs3⟩ := hW w3 rfl
  clear hW
  have y0 := q3.cell 0
  have y1 := q3.cell 1
  have y2 := q3.cell 2
  obtain ⟨hmk1, hmk2⟩ := MK.out
  have lD : w.heap.size < w3.heap.size := by omega
  go_cut [8] (fun s8 wx => ∃ g gs gm : Nat, s8 = .pointer (some ⟨g, 0, none⟩) ∧ Arr wx g 24 [.slice (some ⟨gs, 0, none⟩) S.length S.length, .slice (some ⟨gm, 0, none⟩) M.length M.length, .int .i64 L] ∧ Arr wx gs 3 (List.replicate S.length (Value.int .i64 0)) ∧ Arr wx gm 3 (List.replicate M.length (Value.int .i64 0)) ∧ w3.heap.size ≤ g ∧ w3.heap.size ≤ gs ∧ w3.heap.size ≤ gm ∧ g ≠ gs ∧ g ≠ gm ∧ gs ≠ gm ∧ Below w3.heap.size w3 wx)
  case first =>
    clear hmk1 hmk2
    obtain ⟨hmk1, hmk2⟩ := MK.out
    go_region
    all_goals
      go_wp2_with fail
      go_meet
      exact ⟨_, _, _, rfl, (by first | exact (three_new hs3 _ _ _).1 | exact (three_new hs3 _ _ _).2.1 | exact (three_new hs3 _ _ _).2.2), (by first | exact (three_new hs3 _ _ _).1 | exact (three_new hs3 _ _ _).2.1 | exact (three_new hs3 _ _ _).2.2), (by first | exact (three_new hs3 _ _ _).1 | exact (three_new hs3 _ _ _).2.1 | exact (three_new hs3 _ _ _).2.2), by omega, by omega, by omega, by omega, by omega, by omega, (three_below _ _ _).drew⟩
  case rest =>
    obtain ⟨g, gs, gm, rfl, r5, s5, m5, lg, lgs, lgm, n1, n2, n3, hb5⟩ := hcut
    clear hmk1 hmk2 MK y0 y1 y2
    rw [← fnC_zero] at s5 m5
    have q5 := q3.below hb5 q3.lt
    have b5 := b3.below hb5 b3.lt
    have e5 := r3.below hb5 r3.lt
    have hbw := hb3.trans (hb5.mono hb3.size)
    rw [hs3] at lg lgs lgm
    clear q3 b3 r3 hb3 hb5 hs3 lD
    have y0 := q5.cell 0
    go_wp2_with fail
    clear y0
    go_loopg [28] S.length (fun gk s28 wr => ∃ (k : Nat) (F : Nat → Int), k ≤ S.length ∧ gk = S.length - k ∧ s28 = .int .i64 (k : Int) ∧ (∀ i, i < k → F i = gi (S.map fun s => -s) i) ∧ Arr wr gs 3 (fnC S.length F) ∧ Arr wr g 24 [.slice (some ⟨gs, 0, none⟩) S.length S.length, .slice (some ⟨gm, 0, none⟩) M.length M.length, .int .i64 L] ∧ Arr wr gm 3 (fnC M.length fun _ => 0) ∧ Arr wr w.heap.size 24 [.slice A S.length c, .slice A2 M.length c2, .int .i64 L] ∧ Arr wr (w.heap.size + 1) 38 [.func (.func 52) #[] #[]] ∧ Arr wr (w.heap.size + 2) 24 [.slice none 0 0, .slice none 0 0, .int .i64 0] ∧ Below w.heap.size w wr)
    case atStart => exact ⟨0, _, Nat.zero_le _, rfl, rfl, fun i hi => absurd hi (Nat.not_lt_zero _), s5, r5, m5, q5, b5, e5, hbw⟩
    case round =>
      clear s5 r5 m5 q5 b5 e5 hbw
      obtain ⟨k, F, hk, rfl, rfl, hF, s5, r5, m5, q5, b5, e5, hbw⟩ := hrel
      by_cases hlt : k < S.length
      · have z1 : (k : Int) < (S.length : Int) := by omega
        obtain ⟨b, o, hA, hbl, hcell⟩ := (HSS.out wr hbw).at_ hlt
        have hsg := HK.out.sg k hlt
        have hgi : gi (S.map fun s => -s) k = -S[k] := by rw [gi_neg]; unfold gi; rw [List.getElem?_eq_getElem hlt]; rfl
        generalize S[k] = sv at *
        have v1 : -1 ≤ sv := by omega
        have v2 : sv ≤ 1 := by omega
        have HF := Lib.hid hF
        have HGI := Lib.hid hgi
        clear hF hgi hsg
        subst hA
        go_upto_region 6 with fail
        have y0 := r5.cell 0
        have y1 := (s5.cell k).trans (fnC_get hlt)
        have y2 := s5.frozen k
        go_region_with (go_at_call 54; refine (HSG.out _ _ (by first | exact hbw | exact hbw.drew | exact hbw.drew.drew)).mono ?_; rintro e w7 ⟨rfl, rfl⟩)
        clear y0 y1 y2
        all_goals
          go_wp2_with fail
          go_roundg (S.length - (k + 1))
          case measure => omega
          case rel =>
            exact ⟨k + 1, fun j => if j = k then (-sv) else F j, by omega, rfl, by go_num, fun i hi => (by
              by_cases e : i = k
              · subst e; show (if i = i then (-sv) else F i) = _; rw [if_pos rfl, HGI.out]
              · show (if i = k then (-sv) else F i) = _; rw [if_neg e]; exact HF.out i (by omega)), (by have h := s5.set k (.int .i64 ((-sv))); rw [fnC_set F hlt] at h; exact h.drew), (r5.far (p := ⟨gs, k, none⟩) n1 _).drew, (m5.far (p := ⟨gs, k, none⟩) n3.symm _).drew, (q5.far (p := ⟨gs, k, none⟩) (by show w.heap.size ≠ gs; omega) _).drew, (b5.far (p := ⟨gs, k, none⟩) (by show w.heap.size + 1 ≠ gs; omega) _).drew, (e5.far (p := ⟨gs, k, none⟩) (by show w.heap.size + 2 ≠ gs; omega) _).drew, (hbw.setCell (p := ⟨gs, k, none⟩) (by show w.heap.size ≤ gs; omega) _).drew⟩
      · have z1 : ¬ ((k : Int) < (S.length : Int)) := by omega
        have HF := Lib.hid (show ∀ i, i < S.length → F i = gi (S.map fun s => -s) i from fun i hi => hF i (by omega))
        have hkn : k = S.length := by omega
        clear hF hlt
        have y1 := q5.cell 1
        go_wp2_with fail
        clear y1 z1
        obtain ⟨wo, rfl⟩ : ∃ wo, wo = wr := ⟨_, rfl⟩
        go_loopg [46] M.length (fun gk s46 wi => ∃ (t : Nat) (G : Nat → Int), t ≤ M.length ∧ gk = M.length - t ∧ s46 = .int .i64 (t : Int) ∧ (∀ h, h < t → G (refT h) = ((refT (mt M h) : Nat) : Int)) ∧ Arr wi gs 3 (fnC S.length F) ∧ Arr wi g 24 [.slice (some ⟨gs, 0, none⟩) S.length S.length, .slice (some ⟨gm, 0, none⟩) M.length M.length, .int .i64 L] ∧ Arr wi gm 3 (fnC M.length G) ∧ Arr wi w.heap.size 24 [.slice A S.length c, .slice A2 M.length c2, .int .i64 L] ∧ Arr wi (w.heap.size + 1) 38 [.func (.func 52) #[] #[]] ∧ Arr wi (w.heap.size + 2) 24 [.slice none 0 0, .slice none 0 0, .int .i64 0] ∧ Below w.heap.size w wi)
        case atStart => exact ⟨0, _, Nat.zero_le _, rfl, rfl, fun i hi => absurd hi (Nat.not_lt_zero _), s5, r5, m5, q5, b5, e5, hbw⟩
        case round =>
          clear s5 r5 m5 q5 b5 e5 hbw
          obtain ⟨t, G, ht, rfl, rfl, hG, s5, r5, m5, q5, b5, e5, hbw⟩ := hrel
          by_cases hlt : t < M.length
          · have z1 : (t : Int) < (M.length : Int) := by omega
            obtain ⟨b, o, hA, hbl, hcell⟩ := mt_at (HMM.out _ hbw) hlt (HK.out.pos t hlt)
            have hm1 := HK.out.lt t hlt
            have hm4 := HK.out.m
            have d1 := refT_div t
            have d2 := refT_div (mt M t)
            have HT1 := Lib.hid (fun W hb y => HTO.out W t (by omega) (by omega) hb y)
            have HT2 := Lib.hid (fun W hb y => HTO.out W (mt M t) (by omega) (by omega) hb y)
            have HG := Lib.hid (show ∀ h, h < t + 1 → (fun j => if j = refT t then ((refT (mt M t) : Nat) : Int) else G j) (refT h) = ((refT (mt M h) : Nat) : Int) from fun h hh => by
              by_cases e : h = t
              · subst e; exact if_pos rfl
              · have e2 : refT h ≠ refT t := fun e3 => e (by rw [← refT_inv h, e3, refT_inv t])
                show (if refT h = refT t then ((refT (mt M t) : Nat) : Int) else G (refT h)) = _
                rw [if_neg e2]; exact hG h (by omega))
            obtain ⟨a, ha⟩ : ∃ a, a = refT t := ⟨_, rfl⟩
            obtain ⟨a2, ha2⟩ : ∃ a, a = refT (mt M t) := ⟨_, rfl⟩
            rw [← ha] at HT1 HG d1
            rw [← ha2] at HT2 HG
            have z2 : (a : Int) < (M.length : Int) := by omega
            have hla : a < M.length := by omega
            clear d1 d2 ha ha2 hm4 hG
            generalize mt M t = m at *
            clear hm1
            subst hA
            go_upto_region 11 with fail
            have y0 := r5.cell 1
            have y1 := (m5.cell a).trans (fnC_get hla)
            have y2 := m5.frozen a
            have y3 := b5.cell 0
            refine wp_region_table 9 (by kernel_rfl) (by kernel_rfl) (by kernel_rfl) (by kernel_rfl) (by kernel_rfl) rfl (by kernel_rfl) (fun i => [Value.pointer (some ⟨g, 1, none⟩), Value.slice (some ⟨gm, 0, none⟩) M.length M.length, Value.func (.func 73) #[] #[.pointer (some ⟨w.heap.size + 1, 0, none⟩)], Value.int .i64 (t : Int), Value.int .i64 (a : Int), Value.func (.func 73) #[] #[.pointer (some ⟨w.heap.size + 1, 0, none⟩)], Value.int .i64 (m : Int), Value.int .i64 (a2 : Int), Value.pointer (some ⟨gm, a, none⟩), undef].getD i undef) (fun W => W.setCell ⟨gm, a, none⟩ (.int .i64 (a2 : Int))) ⟨?_, ?_, ?_, ?_, ?_, ?_, ?_, ?_, ?_, ?_, trivial⟩ ?_
            · intro m0 b hb
              have e8 : b.tmps[8]?.getD undef = Value.pointer (some ⟨g, 0, none⟩) := hb 8 rfl
              refine tab_run (by decide) (Value.pointer (some ⟨g, 1, none⟩)) rfl ?_
              clear hb
              go_simp
            · intro m0 b hb
              have e51 : b.tmps[51]?.getD undef = Value.pointer (some ⟨g, 1, none⟩) := hb 51 rfl
              refine tab_run (by decide) (Value.slice (some ⟨gm, 0, none⟩) M.length M.length) rfl ?_
              clear hb
              go_simp
            · intro m0 b hb
              have e7 : b.tmps[7]?.getD undef = Value.func (.func 73) #[] #[.pointer (some ⟨w.heap.size + 1, 0, none⟩)] := hb 7 rfl
              refine tab_run (by decide) (Value.func (.func 73) #[] #[.pointer (some ⟨w.heap.size + 1, 0, none⟩)]) rfl ?_
              clear hb
              go_simp
            · intro m0 b hb
              have e11 : b.tmps[11]?.getD undef = Value.int .i64 (t : Int) := hb 11 rfl
              refine tab_run (by decide) (Value.int .i64 (t : Int)) rfl ?_
              clear hb
              go_simp
            · intro m0 b hb
              have e53 : b.tmps[53]?.getD undef = Value.func (.func 73) #[] #[.pointer (some ⟨w.heap.size + 1, 0, none⟩)] := hb 53 rfl
              have e54 : b.tmps[54]?.getD undef = Value.int .i64 (t : Int) := hb 54 rfl
              refine tab_call (by decide) (Value.int .i64 (a : Int)) rfl ?_ ((HT1.out _ (bdrewN hbw _) y3).mono fun e w' ⟨h, hw⟩ => ⟨0, h, hw.symm⟩)
              clear hb
              go_simp
            · intro m0 b hb
              have e7 : b.tmps[7]?.getD undef = Value.func (.func 73) #[] #[.pointer (some ⟨w.heap.size + 1, 0, none⟩)] := hb 7 rfl
              refine tab_run (by decide) (Value.func (.func 73) #[] #[.pointer (some ⟨w.heap.size + 1, 0, none⟩)]) rfl ?_
              clear hb
              go_simp
            · intro m0 b hb
              have e12 : b.tmps[12]?.getD undef = Value.int .i64 (m : Int) := hb 12 rfl
              refine tab_run (by decide) (Value.int .i64 (m : Int)) rfl ?_
              clear hb
              go_simp
            · intro m0 b hb
              have e56 : b.tmps[56]?.getD undef = Value.func (.func 73) #[] #[.pointer (some ⟨w.heap.size + 1, 0, none⟩)] := hb 56 rfl
              have e57 : b.tmps[57]?.getD undef = Value.int .i64 (m : Int) := hb 57 rfl
              refine tab_call (by decide) (Value.int .i64 (a2 : Int)) rfl ?_ ((HT2.out _ (bdrewN hbw _) y3).mono fun e w' ⟨h, hw⟩ => ⟨0, h, hw.symm⟩)
              clear hb
              go_simp
            · intro m0 b hb
              have e52 : b.tmps[52]?.getD undef = Value.slice (some ⟨gm, 0, none⟩) M.length M.length := hb 52 rfl
              have e55 : b.tmps[55]?.getD undef = Value.int .i64 (a : Int) := hb 55 rfl
              refine tab_run (by decide) (Value.pointer (some ⟨gm, a, none⟩)) rfl ?_
              clear hb
              go_simp
            · intro m0 b hb
              have e58 : b.tmps[58]?.getD undef = Value.int .i64 (a2 : Int) := hb 58 rfl
              have e59 : b.tmps[59]?.getD undef = Value.pointer (some ⟨gm, a, none⟩) := hb 59 rfl
              refine tab_store undef rfl _ rfl ?_ rfl
              clear hb
              go_simp
            intro m0
            simp only [putAll, dstOf, Act.put, List.map_cons, List.map_nil, List.setIfInBounds_toArray, List.set_cons_succ, List.set_cons_zero, Nat.reduceAdd, List.getD_cons_succ, List.getD_cons_zero]
            clear y0 y1 y2 y3
            go_wp2_with fail
            go_roundg (M.length - (t + 1))
            case measure => omega
            case rel =>
              exact ⟨t + 1, _, by omega, rfl, by go_num, HG.out, (s5.far (p := ⟨gm, a, none⟩) n3 _).drew, (r5.far (p := ⟨gm, a, none⟩) n2 _).drew, (by have h := m5.set a (.int .i64 (a2 : Int)); rw [fnC_set G hla] at h; exact h.drew), (q5.far (p := ⟨gm, a, none⟩) (by show w.heap.size ≠ gm; omega) _).drew, (b5.far (p := ⟨gm, a, none⟩) (by show w.heap.size + 1 ≠ gm; omega) _).drew, (e5.far (p := ⟨gm, a, none⟩) (by show w.heap.size + 2 ≠ gm; omega) _).drew, (bdrewN hbw _).setCell (p := ⟨gm, a, none⟩) (by show w.heap.size ≤ gm; omega) _⟩
          · have z1 : ¬ ((t : Int) < (M.length : Int)) := by omega
            have hm4 := HK.out.m
            have HI1 := Lib.hid (fun W (h : Arr W gs 3 (fnC S.length F)) => fnC_ic (xs := (S.map fun s => -s)) h (by simp) (fun i hi => (HF.out i hi).symm))
            have HI2 := Lib.hid (fun W (h : Arr W gm 3 (fnC M.length G)) => fnC_ic (xs := relL (4 * S.length) refT refT M) h (by rw [relL_length, hm4]) (fun i hi => by
              rw [relL_get (by omega)]
              have d := refT_div i
              have h1 := hG (refT i) (by omega)
              rw [refT_inv i] at h1
              exact h1.symm))
            have hres := Lib.hid (((e5.set 0 (.slice (some ⟨gs, 0, none⟩) S.length S.length)).set 1 (.slice (some ⟨gm, 0, none⟩) M.length M.length)).set 2 (.int .i64 L))
            have y0 := r5.cell 0
            have y1 := r5.cell 1
            have y2 := r5.cell 2
            have x0 := e5.cell 0
            have x1 := e5.cell 1
            have x2 := e5.cell 2
            have f0 := e5.frozen 0
            have f1 := e5.frozen 1
            have f2 := e5.frozen 2
            clear hG HF hm4
            go_wp2_with fail
            refine bodyPost_ret (v := .agg #[.slice (some ⟨gs, 0, none⟩) S.length S.length, .slice (some ⟨gm, 0, none⟩) M.length M.length, .int .i64 L]) (results_c Try.results53 _ _ (w.heap.size + 2) 24 _ _ rfl hres.out Try.underlying24 rfl info_diag) rfl ?_
            have ns : gs ≠ w.heap.size + 2 := by omega
            have nm : gm ≠ w.heap.size + 2 := by omega
            exact ⟨_, _, rfl, (by omega), (by omega), HI1.out _ (((s5.far (p := ⟨w.heap.size + 2, 0, none⟩) ns _).far (p := ⟨w.heap.size + 2, 1, none⟩) ns _).far (p := ⟨w.heap.size + 2, 2, none⟩) ns _), HI2.out _ (((m5.far (p := ⟨w.heap.size + 2, 0, none⟩) nm _).far (p := ⟨w.heap.size + 2, 1, none⟩) nm _).far (p := ⟨w.heap.size + 2, 2, none⟩) nm _), ((hbw.setCell (p := ⟨w.heap.size + 2, 0, none⟩) (by simp) _).setCell (p := ⟨w.heap.size + 2, 1, none⟩) (by simp) _).setCell (p := ⟨w.heap.size + 2, 2, none⟩) (by simp) _⟩
end Go.Proofs.Ytcjaloddgilnpaa
