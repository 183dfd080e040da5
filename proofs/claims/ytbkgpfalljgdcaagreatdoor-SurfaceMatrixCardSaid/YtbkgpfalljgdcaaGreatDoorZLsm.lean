/- unravelref38.Matrix. -/
/- unravelref26.Same at equal matrices. -/
/- surface.Size. -/
/- SurfaceMatrix: the law's walk. -/
import Derived.Test.YtbkgpfalljgdcaaGreatDoorZItn
import Derived.Test.YtbkgpfalljgdcaaGreatDoorZApd
import Derived.Test.YtbkgpfalljgdcaaGreatDoorZSfm
import Derived.Test.YtbkgpfalljgdcaaGreatDoorZDeu
import Derived.Test.YtbkgpfalljgdcaaGreatDoorZEnd
namespace Go.Proofs.YtbkgpfalljgdcaaGreatDoor
open Go.RowKit
set_option linter.unusedVariables false

theorem cell_ltA {w : World} {a : Addr} {v : Value} (h : w.cell? a = some v) : a.block < w.heap.size := by
  rcases Nat.lt_or_ge a.block w.heap.size with z | z
  · exact z
  · exfalso
    unfold World.cell? at h
    rw [Array.getElem?_eq_none (by omega)] at h
    cases h
theorem sfRow_take {W : List Int} {ls : List L3} {i j : Nat} (h : j < ls.length) : (sfRow W ls i).take (j + 1) = (sfRow W ls i).take j ++ [sfE W (ls[i]?.getD (0, 0, 0)) (ls[j]?.getD (0, 0, 0))] := by
  rw [List.take_succ_eq_append_getElem (by rw [sfRow_length]; exact h)]
  congr 2
  have := sfRow_get (W := W) (i := i) h
  rw [List.getElem?_eq_getElem (by rw [sfRow_length]; exact h)] at this
  injection this
set_option maxHeartbeats 8000000 in
set_option maxRecDepth 100000 in
theorem rmatrix_any (N : Int) (vw : Value) (W : List Int) (w : World) (h : Ints w vw W) (hl : W.length ≤ 1000) (hN : 1 ≤ N ∧ N ≤ 10) (hb : ∀ l ∈ W, -1000000 ≤ l ∧ l ≤ 1000000) :
    Calls Tryz.prog 11 #[.int .i64 N, vw] w fun e w' => ∃ v, e = .returned v ∧ MatI w' v (sfM W (lsF N W)) ∧ Below w.heap.size w w' := by
  have HP := Lib.hid (fun W' (hb : Below w.heap.size w W') => h.below hb)
  have HLP := Lib.hid (rloops_any N vw W w h hl hN hb)
  have HLM := Lib.hid (lgL_mem W (N - 1).toNat)
  have HLL := Lib.hid (show (lsF N W).length ≤ 10000 by
    have := lgL_bd W (N - 1).toNat
    have h2 : (N - 1).toNat * W.length ≤ 10 * 1000 := Nat.mul_le_mul (by omega) hl
    unfold lsF; omega)
  obtain ⟨A, c, hv, -, -⟩ := h
  subst hv
  have HWL := Lib.hid hl
  obtain ⟨ls, hls⟩ : ∃ ls, ls = lsF N W := ⟨_, rfl⟩
  rw [← hls] at HLP HLL ⊢
  rw [show lgL W (N - 1).toNat = ls from hls.symm] at HLM
  obtain ⟨nw, hnw⟩ : ∃ n, n = W.length := ⟨_, rfl⟩
  rw [← hnw] at HP HLP hl ⊢
  have HNW := Lib.hid hnw
  obtain ⟨n, hn⟩ : ∃ n, n = ls.length := ⟨_, rfl⟩
  have hnl : n ≤ 10000 := by rw [hn]; exact HLL.out
  have HN := Lib.hid hn
  clear hls hnw hn hb
  go_enter Tryz.func11, Tryz.ntmps11
  go_wp2_with fail
  refine HLP.out.mono ?_
  rintro e w1 ⟨vL, rfl, hoL, hb1⟩
  have HSL := Lib.hid (fun W' (hb : Below w1.heap.size w1 W') => (hoL.sl).below hb)
  have HB1 := Lib.hid hb1
  obtain ⟨AL, cL, rfl⟩ := hoL.form
  rw [← HN.out] at HSL ⊢
  clear hoL hb1 HLP
  go_upto_region 4 with fail
  go_loopg [6, 7, 8, 9] n (fun gk s6 s7 s8 s9 wr => ∃ (ix : Nat) (es : List SVt), ix ≤ n ∧ gk = n - ix ∧ s7 = .int .i64 (ix : Int) ∧ OwnA 22 1 eS w1.heap.size wr s6 es ∧ es.length = ix ∧ (∀ (j : Nat) s, es[j]? = some s → ∃ B, OwnA 3 1 eI5 B wr (vS s) (sfRow W ls j)) ∧ Below w1.heap.size w1 wr)
  case atStart => exact ⟨0, [], by omega, rfl, rfl, OwnA.nil _ _ _ _ _, rfl, fun j s h => by simp at h, Below.refl _ _⟩
  case round =>
    obtain ⟨ix, es, hi, rfl, rfl, hown, hle, hrows, hbr⟩ := hrel
    obtain ⟨wo, rfl⟩ : ∃ wo : World, wo = wr := ⟨_, rfl⟩
    have HO := Lib.hid hown
    have HLE := Lib.hid hle
    have HRW := Lib.hid hrows
    have HBO := Lib.hid hbr
    obtain ⟨Ao, co, rfl⟩ := hown.form
    clear hown hle hrows hbr
    by_cases hit : ix < n
    · have z1 : (ix : Int) < (n : Int) := by omega
      have hil : ix < ls.length := by rw [← HN.out]; exact hit
      go_upto_region 8 with fail
      go_loopg [8, 9] n (fun gk s8 s9 wr => ∃ jx : Nat, jx ≤ n ∧ gk = n - jx ∧ s9 = .int .i64 (jx : Int) ∧ OwnA 3 1 eI5 wo.heap.size wr s8 ((sfRow W ls ix).take jx) ∧ Below wo.heap.size wo wr)
      case atStart => exact ⟨0, by omega, rfl, rfl, OwnA.nil _ _ _ _ _, Below.refl _ _⟩
      case round =>
        obtain ⟨jx, hk, rfl, rfl, hin, hbi⟩ := hrel
        obtain ⟨wi, rfl⟩ : ∃ wi : World, wi = wr := ⟨_, rfl⟩
        by_cases hkt : jx < n
        · have z2 : (jx : Int) < (n : Int) := by omega
          have hkl : jx < ls.length := by rw [← HN.out]; exact hkt
          have hbw : Below w1.heap.size w1 wi := HBO.out.trans (hbi.mono HBO.out.size)
          obtain ⟨b1, o1, hA1, hnm, p0, p1, p2⟩ := LsI.at_ (HSL.out wi hbw) hil
          obtain ⟨b2, o2, hA2, hnm2, q0, q1, q2⟩ := LsI.at_ (HSL.out wi hbw) hkl
          clear hnm hnm2
          subst hA1
          injection hA2 with hA2
          injection hA2 with e1 e2
          subst e1; subst e2
          have hmx := HLM.out _ (List.getElem_mem hil)
          have hmy := HLM.out _ (List.getElem_mem hkl)
          have HT := Lib.hid (sfRow_take (W := W) (ls := ls) (i := ix) hkl)
          rw [List.getElem?_eq_getElem hil, List.getElem?_eq_getElem hkl, Option.getD_some, Option.getD_some] at HT
          have HRE := Lib.hid (rfE_is (W := W) hmx.2.2.2.1 hmy.2.2.2.1)
          obtain ⟨tx, htx⟩ : ∃ t, t = ls[ix] := ⟨_, rfl⟩
          obtain ⟨ty, hty⟩ : ∃ t, t = ls[jx] := ⟨_, rfl⟩
          rw [← htx] at p0 p1 p2 hmx HT HRE
          rw [← hty] at q0 q1 q2 hmy HT HRE
          obtain ⟨xg, xp, xq⟩ := tx
          obtain ⟨yg, yp, yq⟩ := ty
          clear htx hty
          dsimp only at p0 p1 p2 q0 q1 q2 hmx hmy
          obtain ⟨xpn, rfl⟩ : ∃ jx : Nat, xp = (jx : Int) := ⟨xp.toNat, by omega⟩
          obtain ⟨xqn, rfl⟩ : ∃ jx : Nat, xq = (jx : Int) := ⟨xq.toNat, by omega⟩
          have hrl : ((sfRow W ls ix).take jx).length = jx := by rw [List.length_take, sfRow_length, ← HN.out]; exact Nat.min_eq_left (by omega)
          have HEC := Lib.hid (fun W' (hb : Below w.heap.size w W') => entry_any (.slice A nw c) W xg yg yp yq xpn xqn W' (HP.out W' hb) (by have := HWL.out; omega) (by omega) (by omega) (by omega))
          rw [HRE.out] at HEC
          obtain ⟨ev, hev⟩ : ∃ ev, ev = sfE W (xg, (xpn : Int), (xqn : Int)) (yg, yp, yq) := ⟨_, rfl⟩
          rw [← hev] at HT HEC
          generalize (sfRow W ls ix).take jx = R at *
          have HIN := Lib.hid hin
          have HBI := Lib.hid hbi
          have HBW := Lib.hid (HB1.out.trans (hbw.mono HB1.out.size))
          have HRK := Lib.hid hrl
          have HCX := Lib.hid (fun v1 (hpre : Below wi.heap.size wi v1) => And.intro ((hpre.cell (cell_ltA p0)).trans p0) (And.intro ((hpre.cell (cell_ltA p1)).trans p1) ((hpre.cell (cell_ltA p2)).trans p2)))
          have HCY := Lib.hid (fun v1 (hpre : Below wi.heap.size wi v1) => And.intro ((hpre.cell (cell_ltA q0)).trans q0) (And.intro ((hpre.cell (cell_ltA q1)).trans q1) ((hpre.cell (cell_ltA q2)).trans q2)))
          obtain ⟨Ai, ci, rfl⟩ := hin.form
          rw [hrl] at HIN ⊢
          have HSZ := Lib.hid (show wo.heap.size ≤ wi.heap.size from HBI.out.size)
          clear hin hbi hbw hrl hev hmx hmy hil hkl HRE p0 p1 p2 q0 q1 q2
          go_upto_region 10 with fail
          refine wp_region_facts2U (by kernel_rfl) (by kernel_rfl) (by kernel_rfl) (by kernel_rfl) (by kernel_rfl) (ApD 3 1 eI5 wo.heap.size wi (fun i => ([some (.slice Ai jx ci), some (.slice A nw c), some (.slice (some ⟨b1, o1, none⟩) n cL), some (.int .i64 (ix : Int)), some (.pointer (some ⟨b1, o1 + ix * 3, none⟩)), some (.agg #[.int .i64 xg, .int .i64 (xpn : Int), .int .i64 (xqn : Int)]), some (.slice (some ⟨b1, o1, none⟩) n cL), some (.int .i64 (jx : Int)), some (.pointer (some ⟨b1, o1 + jx * 3, none⟩)), some (.agg #[.int .i64 yg, .int .i64 yp, .int .i64 yq]), some (.int .i64 ev), none, none, none] : List (Option Value)).getD i none) 11 12 13 (.slice Ai jx ci) (R) ([ev])) (ApD.start (by rfl)) ⟨?_, ?_, ?_, ?_, ?_, ?_, ?_, ?_, ?_, ?_, ?_, ?_, ?_, ?_, trivial⟩ ?_
          · intro D x w1 bA hI hD hdep hcl hb
            have hq12 : D 12 = false := by cases h : D 12 with | false => rfl | true => (have := hcl 12 h 0 (by decide); rw [hD] at this; cases this)
            have hqf : D 13 = false := by cases h : D 13 with | false => rfl | true => (have := hcl 13 h 12 (by decide); rw [hq12] at this; cases this)
            have hpre := hI.pre hq12 hqf
            have e8 : bA.tmps[8]?.getD undef = .slice Ai jx ci := (hb 8).trans (hI.old hqf)
            refine wp_of_run (.slice Ai jx ci) (w' := w1) ?_ (hI.val rfl (by decide) (by decide) (by decide))
            clear hb hI hdep hcl
            go_simp
          · intro D x w1 bA hI hD hdep hcl hb
            have e1 : bA.tmps[1]?.getD undef = .slice A nw c := hb 1
            refine wp_of_run (.slice A nw c) (w' := w1) ?_ (hI.val rfl (by decide) (by decide) (by decide))
            clear hb hI hdep hcl
            go_simp
          · intro D x w1 bA hI hD hdep hcl hb
            have e5 : bA.tmps[5]?.getD undef = .slice (some ⟨b1, o1, none⟩) n cL := hb 5
            refine wp_of_run (.slice (some ⟨b1, o1, none⟩) n cL) (w' := w1) ?_ (hI.val rfl (by decide) (by decide) (by decide))
            clear hb hI hdep hcl
            go_simp
          · intro D x w1 bA hI hD hdep hcl hb
            have e7 : bA.tmps[7]?.getD undef = .int .i64 (ix : Int) := hb 7
            refine wp_of_run (.int .i64 (ix : Int)) (w' := w1) ?_ (hI.val rfl (by decide) (by decide) (by decide))
            clear hb hI hdep hcl
            go_simp
          · intro D x w1 bA hI hD hdep hcl hb
            have hq5 : D 5 = false := by cases h : D 5 with | false => rfl | true => (have := hcl 5 h 4 (by decide); rw [hD] at this; cases this)
            have hq10 : D 10 = false := by cases h : D 10 with | false => rfl | true => (have := hcl 10 h 5 (by decide); rw [hq5] at this; cases this)
            have hq11 : D 11 = false := by cases h : D 11 with | false => rfl | true => (have := hcl 11 h 10 (by decide); rw [hq10] at this; cases this)
            have hq12 : D 12 = false := by cases h : D 12 with | false => rfl | true => (have := hcl 12 h 11 (by decide); rw [hq11] at this; cases this)
            have hqf : D 13 = false := by cases h : D 13 with | false => rfl | true => (have := hcl 13 h 12 (by decide); rw [hq12] at this; cases this)
            have hpre := hI.pre hq12 hqf
            have e27 : bA.tmps[27]?.getD undef = .slice (some ⟨b1, o1, none⟩) n cL := (hb 27).trans (hI.kn 2 _ rfl (hdep 2 (by decide)))
            have e28 : bA.tmps[28]?.getD undef = .int .i64 (ix : Int) := (hb 28).trans (hI.kn 3 _ rfl (hdep 3 (by decide)))
            refine wp_of_run (.pointer (some ⟨b1, o1 + ix * 3, none⟩)) (w' := w1) ?_ (hI.val rfl (by decide) (by decide) (by decide))
            clear hb hI hdep hcl
            go_simp
          · intro D x w1 bA hI hD hdep hcl hb
            have hq10 : D 10 = false := by cases h : D 10 with | false => rfl | true => (have := hcl 10 h 5 (by decide); rw [hD] at this; cases this)
            have hq11 : D 11 = false := by cases h : D 11 with | false => rfl | true => (have := hcl 11 h 10 (by decide); rw [hq10] at this; cases this)
            have hq12 : D 12 = false := by cases h : D 12 with | false => rfl | true => (have := hcl 12 h 11 (by decide); rw [hq11] at this; cases this)
            have hqf : D 13 = false := by cases h : D 13 with | false => rfl | true => (have := hcl 13 h 12 (by decide); rw [hq12] at this; cases this)
            have hpre := hI.pre hq12 hqf
            have e29 : bA.tmps[29]?.getD undef = .pointer (some ⟨b1, o1 + ix * 3, none⟩) := (hb 29).trans (hI.kn 4 _ rfl (hdep 4 (by decide)))
            have hcc := HCX.out _ hpre
            have c0 := hcc.1
            have c1 := hcc.2.1
            have c2 := hcc.2.2
            clear hcc
            refine wp_of_run (.agg #[.int .i64 xg, .int .i64 (xpn : Int), .int .i64 (xqn : Int)]) (w' := w1) ?_ (hI.val rfl (by decide) (by decide) (by decide))
            clear hb hI hdep hcl
            go_simp
          · intro D x w1 bA hI hD hdep hcl hb
            have e5 : bA.tmps[5]?.getD undef = .slice (some ⟨b1, o1, none⟩) n cL := hb 5
            refine wp_of_run (.slice (some ⟨b1, o1, none⟩) n cL) (w' := w1) ?_ (hI.val rfl (by decide) (by decide) (by decide))
            clear hb hI hdep hcl
            go_simp
          · intro D x w1 bA hI hD hdep hcl hb
            have e9 : bA.tmps[9]?.getD undef = .int .i64 (jx : Int) := hb 9
            refine wp_of_run (.int .i64 (jx : Int)) (w' := w1) ?_ (hI.val rfl (by decide) (by decide) (by decide))
            clear hb hI hdep hcl
            go_simp
          · intro D x w1 bA hI hD hdep hcl hb
            have hq9 : D 9 = false := by cases h : D 9 with | false => rfl | true => (have := hcl 9 h 8 (by decide); rw [hD] at this; cases this)
            have hq10 : D 10 = false := by cases h : D 10 with | false => rfl | true => (have := hcl 10 h 9 (by decide); rw [hq9] at this; cases this)
            have hq11 : D 11 = false := by cases h : D 11 with | false => rfl | true => (have := hcl 11 h 10 (by decide); rw [hq10] at this; cases this)
            have hq12 : D 12 = false := by cases h : D 12 with | false => rfl | true => (have := hcl 12 h 11 (by decide); rw [hq11] at this; cases this)
            have hqf : D 13 = false := by cases h : D 13 with | false => rfl | true => (have := hcl 13 h 12 (by decide); rw [hq12] at this; cases this)
            have hpre := hI.pre hq12 hqf
            have e31 : bA.tmps[31]?.getD undef = .slice (some ⟨b1, o1, none⟩) n cL := (hb 31).trans (hI.kn 6 _ rfl (hdep 6 (by decide)))
            have e32 : bA.tmps[32]?.getD undef = .int .i64 (jx : Int) := (hb 32).trans (hI.kn 7 _ rfl (hdep 7 (by decide)))
            refine wp_of_run (.pointer (some ⟨b1, o1 + jx * 3, none⟩)) (w' := w1) ?_ (hI.val rfl (by decide) (by decide) (by decide))
            clear hb hI hdep hcl
            go_simp
          · intro D x w1 bA hI hD hdep hcl hb
            have hq10 : D 10 = false := by cases h : D 10 with | false => rfl | true => (have := hcl 10 h 9 (by decide); rw [hD] at this; cases this)
            have hq11 : D 11 = false := by cases h : D 11 with | false => rfl | true => (have := hcl 11 h 10 (by decide); rw [hq10] at this; cases this)
            have hq12 : D 12 = false := by cases h : D 12 with | false => rfl | true => (have := hcl 12 h 11 (by decide); rw [hq11] at this; cases this)
            have hqf : D 13 = false := by cases h : D 13 with | false => rfl | true => (have := hcl 13 h 12 (by decide); rw [hq12] at this; cases this)
            have hpre := hI.pre hq12 hqf
            have e33 : bA.tmps[33]?.getD undef = .pointer (some ⟨b1, o1 + jx * 3, none⟩) := (hb 33).trans (hI.kn 8 _ rfl (hdep 8 (by decide)))
            have hcc := HCY.out _ hpre
            have c0 := hcc.1
            have c1 := hcc.2.1
            have c2 := hcc.2.2
            clear hcc
            refine wp_of_run (.agg #[.int .i64 yg, .int .i64 yp, .int .i64 yq]) (w' := w1) ?_ (hI.val rfl (by decide) (by decide) (by decide))
            clear hb hI hdep hcl
            go_simp
          · intro D x w1 bA hI hD hdep hcl hb
            have hq11 : D 11 = false := by cases h : D 11 with | false => rfl | true => (have := hcl 11 h 10 (by decide); rw [hD] at this; cases this)
            have hq12 : D 12 = false := by cases h : D 12 with | false => rfl | true => (have := hcl 12 h 11 (by decide); rw [hq11] at this; cases this)
            have hqf : D 13 = false := by cases h : D 13 with | false => rfl | true => (have := hcl 13 h 12 (by decide); rw [hq12] at this; cases this)
            have hpre := hI.pre hq12 hqf
            have e26 : bA.tmps[26]?.getD undef = .slice A nw c := (hb 26).trans (hI.kn 1 _ rfl (hdep 1 (by decide)))
            have e30 : bA.tmps[30]?.getD undef = .agg #[.int .i64 xg, .int .i64 (xpn : Int), .int .i64 (xqn : Int)] := (hb 30).trans (hI.kn 5 _ rfl (hdep 5 (by decide)))
            have e34 : bA.tmps[34]?.getD undef = .agg #[.int .i64 yg, .int .i64 yp, .int .i64 yq] := (hb 34).trans (hI.kn 9 _ rfl (hdep 9 (by decide)))
            refine wp_of_callA ?_ (((HEC.out w1 (HBW.out.trans (hpre.mono HBW.out.size)))).mono (by rintro e w' ⟨rfl, hbw⟩; exact ⟨_, rfl, hI.grow rfl (by decide) (by decide) (by decide) hq12 hqf hbw⟩))
            clear hb hI hdep hcl
            go_simp
          · intro D x w1 bA hI hD hdep hcl hb
            have hq12 : D 12 = false := by cases h : D 12 with | false => rfl | true => (have := hcl 12 h 11 (by decide); rw [hD] at this; cases this)
            have hqf : D 13 = false := by cases h : D 13 with | false => rfl | true => (have := hcl 13 h 12 (by decide); rw [hq12] at this; cases this)
            have e35 : bA.tmps[35]?.getD undef = .int .i64 ev := (hb 35).trans (hI.kn 10 _ rfl (hdep 10 (by decide)))
            refine wp_of_run (.slice (some ⟨w1.heap.size, 0, none⟩) 1 1) (w' := w1.alloc (.cells #[.int .i64 ev] 3)) ?_ (hI.call rfl (by decide) (by decide) hq12 hqf ((Below.refl _ _).alloc (Nat.le_refl _) _) (OwnA.lit (xs := [ev]) (fun y _ => elI5.len y) (Nat.le_refl _) (by simp) (by simp)))
            clear hb hI hdep hcl
            go_simp
          · intro D x w1 bA hI hD hdep hcl hb
            have hqf : D 13 = false := by cases h : D 13 with | false => rfl | true => (have := hcl 13 h 12 (by decide); rw [hD] at this; cases this)
            have e25 : bA.tmps[25]?.getD undef = .slice Ai jx ci := (hb 25).trans (hI.kn 0 _ rfl (hdep 0 (by decide)))
            have e36 : bA.tmps[36]?.getD undef = x 11 := hb 36
            exact hI.app elI5 (.tmp 25) (.tmp 36) 22 22 rfl Tryz.underlying22 Tryz.underlying22 rfl (by decide) (by decide) (hdep 11 (by decide)) hD hqf (by simpa [Act.eval] using e25) (by simpa [Act.eval] using e36) (by rw [← HRK.out] at *; exact HIN.out) (HSZ.out) (by have := HRK.out; simp; omega)
          · intro D x w1 bA hI hD hdep hcl hb
            have hda : D 12 = true := hdep 12 (by decide)
            have e37 : bA.tmps[37]?.getD undef = x 12 := hb 37
            refine wp_of_run (x 12) (w' := w1) ?_ (hI.last rfl hda hD rfl)
            clear hb hI hdep hcl
            go_simp
          intro D x w1 hI hall
          obtain ⟨hownS, hkptS⟩ := hI.fin (hall 13 (by simp))
          have x0e : x 0 = .slice Ai jx ci := hI.kn 0 _ rfl (hall 0 (by simp))
          have x1e : x 1 = .slice A nw c := hI.kn 1 _ rfl (hall 1 (by simp))
          have x2e : x 2 = .slice (some ⟨b1, o1, none⟩) n cL := hI.kn 2 _ rfl (hall 2 (by simp))
          have x3e : x 3 = .int .i64 (ix : Int) := hI.kn 3 _ rfl (hall 3 (by simp))
          have x4e : x 4 = .pointer (some ⟨b1, o1 + ix * 3, none⟩) := hI.kn 4 _ rfl (hall 4 (by simp))
          have x5e : x 5 = .agg #[.int .i64 xg, .int .i64 (xpn : Int), .int .i64 (xqn : Int)] := hI.kn 5 _ rfl (hall 5 (by simp))
          have x6e : x 6 = .slice (some ⟨b1, o1, none⟩) n cL := hI.kn 6 _ rfl (hall 6 (by simp))
          have x7e : x 7 = .int .i64 (jx : Int) := hI.kn 7 _ rfl (hall 7 (by simp))
          have x8e : x 8 = .pointer (some ⟨b1, o1 + jx * 3, none⟩) := hI.kn 8 _ rfl (hall 8 (by simp))
          have x9e : x 9 = .agg #[.int .i64 yg, .int .i64 yp, .int .i64 yq] := hI.kn 9 _ rfl (hall 9 (by simp))
          have x10e : x 10 = .int .i64 ev := hI.kn 10 _ rfl (hall 10 (by simp))
          simp only [putAll, dstOf, Act.put, List.map_cons, List.map_nil, List.setIfInBounds_toArray, List.set_cons_succ, List.set_cons_zero, Nat.reduceAdd, x0e, x1e, x2e, x3e, x4e, x5e, x6e, x7e, x8e, x9e, x10e]
          clear x0e x1e x2e x3e x4e x5e x6e x7e x8e x9e x10e hI hall
          generalize x 13 = xF, x 12 = xA, x 11 = xC at *
          have HO1 := Lib.hid hownS
          have HB8 := Lib.hid (HBI.out.trans hkptS.bel)
          clear hownS hkptS
          go_wp2_with fail
          go_roundg (n - (jx + 1))
          case measure => omega
          case rel => exact ⟨jx + 1, by omega, rfl, by go_num, by rw [HT.out]; exact HO1.out, HB8.out⟩
        · have z2 : ¬ ((jx : Int) < (n : Int)) := by omega
          have hrl : (sfRow W ls ix).take jx = sfRow W ls ix := List.take_of_length_le (by rw [sfRow_length, ← HN.out]; omega)
          rw [hrl] at hin
          obtain ⟨Ai, ci, rfl⟩ := hin.form
          have hlr : (sfRow W ls ix).length = n := by rw [sfRow_length, ← HN.out]
          rw [hlr] at hin ⊢
          have HIN := Lib.hid hin
          have HS7 := Lib.hid ((HO.out.below hbi).below ((Below.refl _ _).alloc (Nat.le_refl _) (.cells #[vS (Ai, n, ci)] 22)))
          have HSL := Lib.hid (sl5_row wi (Ai, n, ci))
          have hbi2 := hbi.alloc hbi.size (.cells #[vS (Ai, n, ci)] 22)
          have HB7 := Lib.hid (HBO.out.trans (hbi2.mono HBO.out.size))
          have HBI := Lib.hid hbi
          have HSZ := Lib.hid (show w1.heap.size ≤ (wi.alloc (.cells #[vS (Ai, n, ci)] 22)).heap.size by have := hbi.size; have := HBO.out.size; simp; omega)
          have HRL := Lib.hid (show es.length + [((Ai, n, ci) : SVt)].length ≤ 1000000000 by have := HLE.out; simp; omega)
          clear hin hbi hbi2 hrl hlr
          go_wp2_with (at_builtin; go_loud (refine wpList_appA rfl elR5 (.tmp 38) (.tmp 40) 26 26 rfl Tryz.underlying26 Tryz.underlying26 rfl HS7.out rfl HSL.out HRL.out HSZ.out ?_); go_loud (intro v' w8 h1 h2 h3 h4; have HO1 := Lib.hid h1; have HB8 := Lib.hid (HB7.out.trans h2); have HK8 := Lib.hid h3; clear h1 h2 h3 h4))
          go_roundg (n - (ix + 1))
          case measure => omega
          case rel =>
            have hkeep : ∀ (s : SVt) (r : List Int) (B : Nat), OwnA 3 1 eI5 B wi (vS s) r → OwnA 3 1 eI5 B w8 (vS s) r := fun s r B hs => by
              have hs2 := hs.below ((Below.refl _ _).alloc (Nat.le_refl _) (.cells #[vS (Ai, n, ci)] 22))
              refine hs2.keepK fun jx hk => HK8.out jx (hs2.lt jx hk) fun e => ?_
              obtain ⟨cs1, fr1, t1⟩ := hs2.typ jx hk
              obtain ⟨cs2, fr2, t2⟩ := HS7.out.typ jx e
              rw [t1] at t2
              injection t2 with t2
              injection t2 with _ t2 _
              exact absurd t2 (by decide)
            refine ⟨ix + 1, es ++ [(Ai, n, ci)], by omega, rfl, by go_num, HO1.out, by simp [HLE.out], fun j s hj => ?_, HB8.out⟩
            rcases Nat.lt_or_ge j es.length with z | z
            · rw [List.getElem?_append_left z] at hj
              obtain ⟨B, hB⟩ := HRW.out j s hj; exact ⟨B, hkeep s _ B (hB.below HBI.out)⟩
            · rw [List.getElem?_append_right z] at hj
              have e0 : j = ix := by have := (List.getElem?_eq_some_iff.1 hj).1; simp at this; have := HLE.out; omega
              subst e0
              rw [HLE.out, Nat.sub_self] at hj
              injection hj with hj
              subst hj
              exact ⟨_, hkeep _ _ _ HIN.out⟩
    · have z1 : ¬ ((ix : Int) < (n : Int)) := by omega
      have hin : ix = n := by omega
      have HMT := Lib.hid (own5_mat (k := sfM W ls) HO.out (by rw [HLE.out, sfM_length, ← HN.out]; exact hin) fun j s hj r hr => by
        have hjl : j < ls.length := by have := (List.getElem?_eq_some_iff.1 hr).1; rwa [sfM_length] at this
        rw [sfM_get hjl] at hr
        injection hr with hr
        subst hr
        obtain ⟨B, hB⟩ := HRW.out j s hj; exact own5_ints hB)
      have HBE := Lib.hid (HB1.out.trans (HBO.out.mono HB1.out.size))
      go_wp2_with fail
      go_ret
      exact ⟨_, rfl, HMT.out, HBE.out⟩
end Go.Proofs.YtbkgpfalljgdcaaGreatDoor

namespace Go.Proofs.YtbkgpfalljgdcaaGreatDoor
open Go.RowKit
set_option linter.unusedVariables false

/-- a cell of a matrix: its row, its number -/
theorem MatI.rowc {w : World} {A : Option Addr} {n c i : Nat} {m : List (List Int)} (h : MatI w (.slice A n c) m) (hi : i < m.length) : ∃ b1 o1 A2 c2, A = some ⟨b1, o1, none⟩ ∧ w.cell? ⟨b1, o1 + i, none⟩ = some (.slice A2 m[i].length c2) ∧ ∀ j (hj : j < m[i].length), ∃ b2 o2, A2 = some ⟨b2, o2, none⟩ ∧ w.cell? ⟨b2, o2 + j, none⟩ = some (.int .i64 m[i][j]) := by
  obtain ⟨b1, o1, hA, -, u, hu, hrow⟩ := h.at_ hi
  obtain ⟨A2, c2, rfl, -, hx⟩ := hrow
  exact ⟨b1, o1, A2, c2, hA, hu, fun j hj => hx j _ (List.getElem?_eq_getElem hj)⟩
set_option maxHeartbeats 4000000 in
set_option maxRecDepth 100000 in
theorem same_any (v u : Value) (m : List (List Int)) (w : World) (h : MatI w v m) (k : MatI w u m) (hl : m.length ≤ 1000000) (hr : ∀ r ∈ m, r.length ≤ 1000000) :
    Calls Tryz.prog 10 #[v, u] w fun e w' => e = .returned (.bool true) ∧ Below w.heap.size w w' := by
  have HM := Lib.hid (fun W (hb : Below w.heap.size w W) => h.below hb)
  have HK := Lib.hid (fun W (hb : Below w.heap.size w W) => k.below hb)
  have HR := Lib.hid hr
  obtain ⟨A, c, rfl⟩ := h.form
  obtain ⟨B, d, rfl⟩ := k.form
  obtain ⟨n, hn⟩ : ∃ n, n = m.length := ⟨_, rfl⟩
  rw [← hn] at hl HM HK ⊢
  have HN := Lib.hid hn
  have z0 : ((n : Int) != (n : Int)) = false := by simp
  clear h k hr hn
  go_enter Tryz.func10, Tryz.ntmps10
  go_upto_region 4 with fail
  clear z0
  go_loopg [5, 6] n (fun gk s5 s6 wr => ∃ i : Nat, i ≤ n ∧ gk = n - i ∧ s5 = .int .i64 (i : Int) ∧ Below w.heap.size w wr)
  case atStart => exact ⟨0, by omega, rfl, rfl, Below.refl _ _⟩
  case round =>
    obtain ⟨i, hi, rfl, rfl, hb⟩ := hrel
    obtain ⟨wo, rfl⟩ : ∃ wo : World, wo = wr := ⟨_, rfl⟩
    have HB := Lib.hid hb
    by_cases hit : i < n
    · have z1 : (i : Int) < (n : Int) := by omega
      have him : i < m.length := by rw [← HN.out]; exact hit
      obtain ⟨b1, o1, A1, c1, rfl, y1, hy⟩ := (HM.out wo hb).rowc him
      obtain ⟨b2, o2, A2, c2, rfl, y2, hz⟩ := (HK.out wo hb).rowc him
      have hrl := HR.out _ (List.getElem_mem him)
      generalize m[i] = r at *
      obtain ⟨q, hq⟩ : ∃ q, q = r.length := ⟨_, rfl⟩
      rw [← hq] at y1 y2 hrl
      have HY := Lib.hid hy
      have HZ := Lib.hid hz
      have HQ := Lib.hid hq
      have HY1 := Lib.hid y1
      have HY2 := Lib.hid y2
      have z2 : ((q : Int) != (q : Int)) = false := by simp
      clear hy hz hq hb
      go_upto_region 6 with fail
      go_quiet (fail)
      go_upto_region 9 with fail
      clear y1 y2 z2
      go_loopg [6] q (fun gk s6 wr => ∃ j : Nat, j ≤ q ∧ gk = q - j ∧ s6 = .int .i64 (j : Int) ∧ Below wo.heap.size wo wr)
      case atStart => exact ⟨0, by omega, rfl, rfl, bdrewN (Below.refl _ _) _⟩
      case round =>
        obtain ⟨j, hj, rfl, rfl, hbj⟩ := hrel
        obtain ⟨wi, rfl⟩ : ∃ wi : World, wi = wr := ⟨_, rfl⟩
        have HBJ := Lib.hid hbj
        have y1 := (hbj.cell (block_lt_of_cell HY1.out)).trans HY1.out
        by_cases hjt : j < q
        · have z3 : (j : Int) < (q : Int) := by omega
          have y2 := (hbj.cell (block_lt_of_cell HY2.out)).trans HY2.out
          obtain ⟨b3, o3, rfl, x1⟩ := HY.out j (by rw [← HQ.out]; exact hjt)
          obtain ⟨b4, o4, rfl, x2⟩ := HZ.out j (by rw [← HQ.out]; exact hjt)
          have u1 := (hbj.cell (block_lt_of_cell x1)).trans x1
          have u2 := (hbj.cell (block_lt_of_cell x2)).trans x2
          clear x1 x2
          generalize (r[j]'(by rw [← HQ.out]; exact hjt)) = x at *
          have z4 : ((x : Int) != x) = false := by simp
          clear hbj
          go_upto_region 11 with fail
          go_quiet (fail)
          go_wp2_with fail
          go_roundg (q - (j + 1))
          case measure => omega
          case rel => exact ⟨j + 1, by omega, rfl, by go_num, bdrewN HBJ.out _⟩
        · have z3 : ¬ ((j : Int) < (q : Int)) := by omega
          clear hbj
          go_wp2_with fail
          go_roundg (n - (i + 1))
          case measure => omega
          case rel => exact ⟨i + 1, by omega, rfl, by go_num, HB.out.trans (HBJ.out.mono HB.out.size)⟩
    · have z1 : ¬ ((i : Int) < (n : Int)) := by omega
      go_wp2_with fail
      go_ret
      exact ⟨rfl, HB.out⟩
end Go.Proofs.YtbkgpfalljgdcaaGreatDoor

namespace Go.Proofs.YtbkgpfalljgdcaaGreatDoor
open Go.RowKit
set_option linter.unusedVariables false

/-- what Size returns -/
def SizP (N : Int) (W : List Int) (w : World) (e : Ending) (w' : World) : Prop :=
  Below w.heap.size w w' ∧
    ((brV N W = false ∧ e = .returned (.tuple #[.int .i64 0, .int .i64 1])) ∨
     (brV N W = true ∧ ¬ cnB N W ∧ e = .returned (.tuple #[.int .i64 0, .int .i64 17])) ∨
     (brV N W = true ∧ cnB N W ∧ e = .returned (.tuple #[.int .i64 ((lsF N W).length : Int), .int .i64 0])))
set_option maxHeartbeats 2000000 in
set_option maxRecDepth 100000 in
theorem Size_any (N : Int) (vw : Value) (W : List Int) (w : World) (h : Ints w vw W) (hl : W.length ≤ 9223372036854775807) (hN : -9223372036854775808 ≤ N ∧ N ≤ 9223372036854775807) :
    Calls Tryz.prog 7 #[.agg #[.int .i64 N, vw]] w (SizP N W w) := by
  have HLP := Lib.hid (fun W' (hb : Below w.heap.size w W') => loops_any N vw W W' (h.below hb) hl hN)
  obtain ⟨A, c, hv, -, -⟩ := h
  subst hv
  have hal := (Below.refl w.heap.size w).alloc (Nat.le_refl _) (.cells #[.int .i64 N, .slice A W.length c] 24)
  have HB := Lib.hid hal
  have HQ := Lib.hid (show Arr (w.alloc (.cells #[.int .i64 N, .slice A W.length c] 24)) w.heap.size 24 [.int .i64 N, .slice A W.length c] from Arr.new w _ [_, _])
  obtain ⟨n, hn⟩ : ∃ n, n = W.length := ⟨_, rfl⟩
  rw [← hn] at HLP HB HQ hl ⊢
  clear hal hn
  go_enter Tryz.func7, Tryz.ntmps7
  go_upto_region 1 with fail
  generalize w.alloc (.cells #[.int .i64 N, .slice A n c] 24) = w3 at *
  have y0 := HQ.out.cell 0
  have y1 := HQ.out.cell 1
  have HLC := Lib.hid (HLP.out w3 HB.out)
  clear HLP
  go_wp2_with fail
  refine HLC.out.mono ?_
  rintro e w4 ⟨hb4, hcs⟩
  have HB4 := Lib.hid (HB.out.trans (hb4.mono HB.out.size))
  clear hb4 y0 y1
  rcases hcs with ⟨h1, rfl⟩ | ⟨h1, ⟨g, g1, g2, g3⟩, rfl⟩ | ⟨h1, h2, v, rfl, hv⟩
  · go_wp2_with fail
    go_ret2
    exact ⟨HB4.out, .inl ⟨h1, rfl⟩⟩
  · have HG := Lib.hid (show ¬ cnB N W from fun h => by have := h g g1 g2; omega)
    clear g1 g2 g3
    go_wp2_with fail
    go_ret2
    exact ⟨HB4.out, .inr (.inl ⟨h1, HG.out, rfl⟩)⟩
  · have HC := Lib.hid (show cnB N W from h2)
    obtain ⟨B, d, rfl⟩ := hv.form
    obtain ⟨k, hk⟩ : ∃ k, k = (lgL W (N - 1).toNat).length := ⟨_, rfl⟩
    rw [← hk]
    have HK := Lib.hid (show k = (lsF N W).length from hk)
    clear h2 hv hk
    go_wp2_with fail
    go_ret2
    exact ⟨HB4.out, .inr (.inr ⟨h1, HC.out, by rw [← HK.out]; rfl⟩)⟩
end Go.Proofs.YtbkgpfalljgdcaaGreatDoor

namespace Go.Proofs.YtbkgpfalljgdcaaGreatDoor
open Go.RowKit
set_option linter.unusedVariables false

theorem wf_i64s {x : Int} (h : (Lit.int .i64 x).wf = true) : -9223372036854775808 ≤ x ∧ x ≤ 9223372036854775807 := by
  simp only [Lit.wf, Bool.and_eq_true, decide_eq_true_eq] at h
  exact ⟨h.1, h.2⟩
set_option maxHeartbeats 8000000 in
set_option maxRecDepth 100000 in
theorem smatrix_law38 (N : Int) (vw : Value) (W : List Int) (w : World) (h : Ints w vw W) (hl : W.length ≤ 9223372036854775807) (hwf : (Lit.int .i64 N).wf = true) (ht : Tb w) (ht6 : Tb6 w) :
    Calls Tryz.prog 3 #[.agg #[.int .i64 N, vw]] w (LawT5 w) := by
  have hN := wf_i64s hwf
  have HAW := Lib.hid (fun W (hb : Below w.heap.size w W) => awake38 W (ht.below hb) (ht6.below hb))
  have HH := Lib.hid (fun W' (hb : Below w.heap.size w W') => h.below hb)
  have HMC := Lib.hid (fun W' (hb : Below w.heap.size w W') => sMatrix_any N vw W W' (h.below hb) hl hN)
  have HSC := Lib.hid (fun W' (hb : Below w.heap.size w W') => Size_any N vw W W' (h.below hb) hl hN)
  have HVC := Lib.hid (fun W' (hb : Below w.heap.size w W') => rvalid_any N vw W W' (h.below hb) hl hN)
  have HCC := Lib.hid (fun (hbv : brV N W = true) W' (hb : Below w.heap.size w W') => rconn_any N vw W W' (h.below hb) (by have := brV_iff.1 hbv; omega) (by have := brV_iff.1 hbv; omega) (fun l hl => by have := brV_iff.1 hbv; have := this.2.2.2 l hl; omega))
  have HRC := Lib.hid (fun (hbv : brV N W = true) W' (hb : Below w.heap.size w W') => rmatrix_any N vw W W' (h.below hb) (by have := brV_iff.1 hbv; omega) (by have := brV_iff.1 hbv; omega) (fun l hl => by have := brV_iff.1 hbv; have := this.2.2.2 l hl; omega))
  obtain ⟨A, c, hv, -, -⟩ := h
  subst hv
  obtain ⟨nw, hnn⟩ : ∃ n, n = W.length := ⟨_, rfl⟩
  rw [← hnn] at HH HMC HSC HVC HCC HRC hl ⊢
  have HNW := Lib.hid hnn
  have hal := (Below.refl w.heap.size w).alloc (Nat.le_refl _) (.cells #[.int .i64 N, .slice A nw c] 24)
  have HB := Lib.hid hal
  have HQ := Lib.hid (show Arr (w.alloc (.cells #[.int .i64 N, .slice A nw c] 24)) w.heap.size 24 [.int .i64 N, .slice A nw c] from Arr.new w _ [_, _])
  clear hal hnn ht ht6 hwf
  go_enter Tryz.func3, Tryz.ntmps3
  go_upto_region 1 with fail
  obtain ⟨w3, hw3⟩ : ∃ W', W' = w.alloc (.cells #[.int .i64 N, .slice A nw c] 24) := ⟨_, rfl⟩
  rw [← hw3] at HB HQ ⊢
  obtain ⟨gB, hgB⟩ : ∃ g, g = w.heap.size := ⟨_, rfl⟩
  rw [← hgB] at HQ ⊢
  have HGB := Lib.hid hgB
  clear hw3 hgB
  by_cases hmid : 14 < nw ∧ nw ≤ 200
  · have z1 : (14 : Int) < (nw : Int) := by omega
    have z2 : (nw : Int) ≤ 200 := by omega
    clear hmid
    go_upto_region 2 with (go_at_call 5; refine (HAW.out w3 HB.out).mono ?_; rintro e w1 ⟨rfl, hb1⟩; have y1 := (HQ.out.below hb1 HQ.out.lt).cell 1)
    have HB1 := Lib.hid (HB.out.trans (hb1.mono HB.out.size))
    clear hb1 y1
    go_wp2_with (go_at_call 5; refine (HAW.out w1 HB1.out).mono ?_; rintro e w2 ⟨rfl, hb2⟩)
    go_ret
    exact ⟨rfl, HB1.out.trans (hb2.mono HB1.out.size)⟩
  have HMID := Lib.hid hmid
  have KEY : ∀ w1, Below w3.heap.size w3 w1 → Arr w1 gB 24 [.int .i64 N, .slice A nw c] := fun w1 hb => HQ.out.below hb HQ.out.lt
  have HKY := Lib.hid KEY
  clear KEY
  by_cases hbv : brV N W = true
  · have hnw : nw ≤ 14 := by have := (brV_iff.1 hbv).2.2.1; have := HNW.out; omega
    have z1 : ¬ (14 : Int) < (nw : Int) := by omega
    have HBV := Lib.hid hbv
    have HBF := Lib.hid (show ¬ brV N W = false by rw [hbv]; decide)
    clear hmid hbv
    go_upto_region 3 with (go_at_call 5; refine (HAW.out w3 HB.out).mono ?_; rintro e w1 ⟨rfl, hb1⟩; have y1 := (HQ.out.below hb1 HQ.out.lt).cell 1)
    have HT1 := Lib.hid hb1
    clear hb1 y1
    have y0 := (HKY.out w1 HT1.out).cell 0
    have y1 := (HKY.out w1 HT1.out).cell 1
    have HB1 := Lib.hid (HB.out.trans (HT1.out.mono HB.out.size))
    have HMD := Lib.hid (HMC.out w1 HB1.out)
    go_wp2_with fail
    refine HMD.out.mono ?_
    rintro e w2 ⟨hb2, hcs⟩
    have HT2 := Lib.hid (HT1.out.trans (hb2.mono HT1.out.size))
    have HB2 := Lib.hid (HB.out.trans (HT2.out.mono HB.out.size))
    have HSD := Lib.hid (HSC.out w2 HB2.out)
    clear hb2 y0 y1 HMD HMC HSC
    have y0 := (HKY.out w2 HT2.out).cell 0
    have y1 := (HKY.out w2 HT2.out).cell 1
    rcases hcs with ⟨h1, -⟩ | ⟨h1, hnc, rfl⟩ | ⟨h1, hc, h64, -⟩ | ⟨h1, hc, h64, vM, rfl, hM⟩
    · exact absurd h1 HBF.out
    · have HNC := Lib.hid hnc
      clear h1 hnc
      go_wp2_with fail
      refine HSD.out.mono ?_
      rintro e w4 ⟨hb4, hcs⟩
      have HT4 := Lib.hid (HT2.out.trans (hb4.mono HT2.out.size))
      have HB4 := Lib.hid (HB.out.trans (HT4.out.mono HB.out.size))
      have HVD := Lib.hid (HVC.out w4 HB4.out)
      have HCD := Lib.hid (HCC.out HBV.out w4 HB4.out)
      rw [HBV.out] at HVD
      rw [show cnF N W = false from Bool.eq_false_iff.2 fun h => HNC.out (cnF_iff.1 h)] at HCD
      clear hb4 y0 y1
      have y0 := (HKY.out w4 HT4.out).cell 0
      have y1 := (HKY.out w4 HT4.out).cell 1
      rcases hcs with ⟨h1, -⟩ | ⟨h1, hnc, rfl⟩ | ⟨h1, hc, -⟩
      · exact absurd h1 HBF.out
      · clear h1 hnc
        go_wp2_with (first | (go_at_call 8; refine HVD.out.mono ?_; rintro e w5 ⟨rfl, hw5⟩; obtain rfl := hw5.symm; clear hw5) | (go_at_call 9; refine HCD.out.mono ?_; rintro e w6 ⟨rfl, hw6⟩; obtain rfl := hw6.symm; clear hw6))
        go_ret
        exact ⟨rfl, HB4.out⟩
      · exact absurd hc HNC.out
    · exfalso
      have := lsF_len HBV.out hc
      have := (brV_iff.1 HBV.out).1
      have := HNW.out
      omega
    · have HC := Lib.hid hc
      have hlen := lsF_len HBV.out hc
      have hN1 := (brV_iff.1 HBV.out).1
      rw [← HNW.out] at hlen
      obtain ⟨Am, cm, rfl⟩ := hM.form
      rw [sfM_length] at hM ⊢
      have HM2 := Lib.hid hM
      obtain ⟨nm, hnm⟩ : ∃ n, n = (lsF N W).length := ⟨_, rfl⟩
      rw [← hnm] at hlen HM2 ⊢
      have HNM := Lib.hid hnm
      have HLEN := Lib.hid hlen
      have HN1 := Lib.hid hN1
      clear h1 hc h64 hM hnm hlen hN1
      go_wp2_with fail
      refine HSD.out.mono ?_
      rintro e w4 ⟨hb4, hcs⟩
      have HT4 := Lib.hid (HT2.out.trans (hb4.mono HT2.out.size))
      have HB4 := Lib.hid (HB.out.trans (HT4.out.mono HB.out.size))
      have HM4 := Lib.hid (HM2.out.below hb4)
      have HVD := Lib.hid (HVC.out w4 HB4.out)
      have HCD := Lib.hid (HCC.out HBV.out w4 HB4.out)
      rw [HBV.out] at HVD
      rw [show cnF N W = true from cnF_iff.2 HC.out] at HCD
      clear hb4 y0 y1
      have y0 := (HKY.out w4 HT4.out).cell 0
      have y1 := (HKY.out w4 HT4.out).cell 1
      rcases hcs with ⟨h1, -⟩ | ⟨h1, hnc, -⟩ | ⟨h1, hc, rfl⟩
      · exact absurd h1 HBF.out
      · exact absurd HC.out hnc
      rw [← HNM.out]
      clear h1 hc
      go_upto_region 12 with (first | (go_at_call 8; refine HVD.out.mono ?_; rintro e w5 ⟨rfl, hw5⟩; obtain rfl := hw5.symm; clear hw5) | (go_at_call 9; refine HCD.out.mono ?_; rintro e w6 ⟨rfl, hw6⟩; obtain rfl := hw6.symm; clear hw6))
      clear y0 y1
      have HQ4 := Lib.hid (HKY.out w4 HT4.out)
      have HRD := Lib.hid (fun w1 (hb : Below w4.heap.size w4 w1) => HRC.out HBV.out w1 (HB4.out.trans (hb.mono HB4.out.size)))
      have HSR := Lib.hid (show (sfM W (lsF N W)).length ≤ 1000000 ∧ ∀ r ∈ sfM W (lsF N W), r.length ≤ 1000000 from ⟨by rw [sfM_length, ← HNM.out]; have := HLEN.out; have := HN1.out; omega, fun r hr => by
        obtain ⟨i, _, rfl⟩ := List.mem_map.1 hr
        simp; rw [← HNM.out]; have := HLEN.out; have := HN1.out; omega⟩)
      obtain ⟨d1, hd1⟩ : ∃ d, d = (nw : Int) - N := ⟨_, rfl⟩
      have hlen := HLEN.out
      have hN1 := HN1.out
      have ws1 : IntKind.i64.wrap ((nw : Int) - N) = d1 := by rw [← hd1]; exact IntWalk.i64_in _ (by omega)
      have ws2 : IntKind.i64.wrap (d1 + 1) = (nm : Int) := by rw [show d1 + 1 = (nm : Int) by omega]; exact IntWalk.i64_in _ (by omega)
      clear hlen hd1 hN1
      have y0 := HQ4.out.cell 0
      have y1 := HQ4.out.cell 1
      go_wp2_with (first | (go_at_call 11; refine (HRD.out w4 (Below.refl _ _)).mono ?_; rintro e w5 ⟨v5, rfl, hm5, hb5⟩; have HM5 := Lib.hid hm5; have HB5 := Lib.hid hb5; have y0 := (HQ4.out.below hb5 HQ4.out.lt).cell 0; have y1 := (HQ4.out.below hb5 HQ4.out.lt).cell 1; clear hm5 hb5; have HMM := Lib.hid (HM4.out.below HB5.out); have HSM := Lib.hid (same_any (.slice Am nm cm) v5 _ w5 HMM.out HM5.out HSR.out.1 HSR.out.2)) | (go_at_call 10; refine HSM.out.mono ?_; rintro e w6 ⟨rfl, hb6⟩; have HB6 := Lib.hid hb6; have y0 := (HQ4.out.below (HB5.out.trans (hb6.mono HB5.out.size)) HQ4.out.lt).cell 0; have y1 := (HQ4.out.below (HB5.out.trans (hb6.mono HB5.out.size)) HQ4.out.lt).cell 1; clear hb6))
      go_ret
      exact ⟨rfl, HB4.out.trans ((HB5.out.trans (HB6.out.mono HB5.out.size)).mono HB4.out.size)⟩
  · have hbf : brV N W = false := Bool.eq_false_iff.2 hbv
    have HBF := Lib.hid hbf
    have HBV := Lib.hid hbv
    have body : True := trivial
    clear hbf hbv
    by_cases h14 : nw ≤ 14
    · have z1 : ¬ (14 : Int) < (nw : Int) := by omega
      clear hmid
      go_upto_region 3 with (go_at_call 5; refine (HAW.out w3 HB.out).mono ?_; rintro e w1 ⟨rfl, hb1⟩; have y1 := (HQ.out.below hb1 HQ.out.lt).cell 1)
      have HT1 := Lib.hid hb1
      clear hb1 y1
      have y0 := (HKY.out w1 HT1.out).cell 0
      have y1 := (HKY.out w1 HT1.out).cell 1
      have HB1 := Lib.hid (HB.out.trans (HT1.out.mono HB.out.size))
      have HMD := Lib.hid (HMC.out w1 HB1.out)
      go_wp2_with fail
      refine HMD.out.mono ?_
      rintro e w2 ⟨hb2, hcs⟩
      have HT2 := Lib.hid (HT1.out.trans (hb2.mono HT1.out.size))
      have HB2 := Lib.hid (HB.out.trans (HT2.out.mono HB.out.size))
      have HSD := Lib.hid (HSC.out w2 HB2.out)
      clear hb2 y0 y1 HMD HMC HSC
      have y0 := (HKY.out w2 HT2.out).cell 0
      have y1 := (HKY.out w2 HT2.out).cell 1
      rcases hcs with ⟨h1, rfl⟩ | ⟨h1, -⟩ | ⟨h1, -⟩ | ⟨h1, -⟩
      rotate_left
      · exact absurd h1 HBV.out
      · exact absurd h1 HBV.out
      · exact absurd h1 HBV.out
      clear h1
      go_wp2_with fail
      refine HSD.out.mono ?_
      rintro e w4 ⟨hb4, hcs⟩
      have HT4 := Lib.hid (HT2.out.trans (hb4.mono HT2.out.size))
      have HB4 := Lib.hid (HB.out.trans (HT4.out.mono HB.out.size))
      have HVD := Lib.hid (HVC.out w4 HB4.out)
      rw [HBF.out] at HVD
      clear hb4 y0 y1
      have y0 := (HKY.out w4 HT4.out).cell 0
      have y1 := (HKY.out w4 HT4.out).cell 1
      rcases hcs with ⟨h1, rfl⟩ | ⟨h1, -⟩ | ⟨h1, -⟩
      rotate_left
      · exact absurd h1 HBV.out
      · exact absurd h1 HBV.out
      clear h1
      go_wp2_with (go_at_call 8; refine HVD.out.mono ?_; rintro e w5 ⟨rfl, hw5⟩; obtain rfl := hw5.symm; clear hw5)
      go_ret
      exact ⟨rfl, HB4.out⟩
    · have z1 : (14 : Int) < (nw : Int) := by omega
      have z2 : ¬ (nw : Int) ≤ 200 := by omega
      clear hmid
      go_upto_region 3 with (go_at_call 5; refine (HAW.out w3 HB.out).mono ?_; rintro e w1 ⟨rfl, hb1⟩; have y1 := (HQ.out.below hb1 HQ.out.lt).cell 1)
      have HT1 := Lib.hid hb1
      clear hb1 y1
      have y0 := (HKY.out w1 HT1.out).cell 0
      have y1 := (HKY.out w1 HT1.out).cell 1
      have HB1 := Lib.hid (HB.out.trans (HT1.out.mono HB.out.size))
      have HMD := Lib.hid (HMC.out w1 HB1.out)
      go_wp2_with fail
      refine HMD.out.mono ?_
      rintro e w2 ⟨hb2, hcs⟩
      have HT2 := Lib.hid (HT1.out.trans (hb2.mono HT1.out.size))
      have HB2 := Lib.hid (HB.out.trans (HT2.out.mono HB.out.size))
      have HSD := Lib.hid (HSC.out w2 HB2.out)
      clear hb2 y0 y1 HMD HMC HSC
      have y0 := (HKY.out w2 HT2.out).cell 0
      have y1 := (HKY.out w2 HT2.out).cell 1
      rcases hcs with ⟨h1, rfl⟩ | ⟨h1, -⟩ | ⟨h1, -⟩ | ⟨h1, -⟩
      rotate_left
      · exact absurd h1 HBV.out
      · exact absurd h1 HBV.out
      · exact absurd h1 HBV.out
      clear h1
      go_wp2_with fail
      refine HSD.out.mono ?_
      rintro e w4 ⟨hb4, hcs⟩
      have HT4 := Lib.hid (HT2.out.trans (hb4.mono HT2.out.size))
      have HB4 := Lib.hid (HB.out.trans (HT4.out.mono HB.out.size))
      have HVD := Lib.hid (HVC.out w4 HB4.out)
      rw [HBF.out] at HVD
      clear hb4 y0 y1
      have y0 := (HKY.out w4 HT4.out).cell 0
      have y1 := (HKY.out w4 HT4.out).cell 1
      rcases hcs with ⟨h1, rfl⟩ | ⟨h1, -⟩ | ⟨h1, -⟩
      rotate_left
      · exact absurd h1 HBV.out
      · exact absurd h1 HBV.out
      clear h1
      go_wp2_with (go_at_call 8; refine HVD.out.mono ?_; rintro e w5 ⟨rfl, hw5⟩; obtain rfl := hw5.symm; clear hw5)
      go_ret
      exact ⟨rfl, HB4.out⟩
end Go.Proofs.YtbkgpfalljgdcaaGreatDoor
