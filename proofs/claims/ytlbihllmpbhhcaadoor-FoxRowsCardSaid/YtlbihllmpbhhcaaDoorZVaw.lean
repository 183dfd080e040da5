/- diagram.spherical: the walk. -/
/- unravelref01.Valid. -/
import Derived.Test.YtlbihllmpbhhcaaDoorZSpp
import Derived.Test.YtlbihllmpbhhcaaDoorZStr
namespace Go.Proofs.YtlbihllmpbhhcaaDoor
open Go.RowKit
set_option linter.unusedVariables false

theorem info_bool : (Tryd.prog.info? 4).map (fun i => (i.zero, i.size, i.bytes)) = some (some (.bool false), 1, 1) := by kernel_rfl

set_option maxHeartbeats 4000000 in
set_option maxRecDepth 100000 in
theorem spherical_code (vs vm : Value) (S M : List Int) (L : Int) (w : World) (hS : Ints w vs S) (hM : Ints w vm M) (k : Ok S M L) :
    Calls Tryd.prog 75 #[.agg #[vs, vm, .int .i64 L]] w fun e w' => e = .returned (.bool (sphR M S.length)) ∧ Below w.heap.size w w' := by
  obtain ⟨i0, hi0, hz0, hz1, hz2⟩ := info_parts info_int
  obtain ⟨i1, hi1, hy0, hy1, hy2⟩ := info_parts info_bool
  have hn := k.n
  have hmk := fun (p : Nat) (hp : p ≤ 64) W => run_make_one (P := Tryd.prog) 22 3 i0 (.int .i64 0) Tryd.underlying22 hi0 hz0 hz1 rfl (by rw [hz2]; decide) p (by omega) W
  have hml : M.length ≤ 256 := by have := k.m; omega
  have hmk2 := fun W => run_make_one (P := Tryd.prog) 135 4 i1 (.bool false) Tryd.underlying135 hi1 hy0 hy1 rfl (by rw [hy2]; decide) M.length (by omega) W
  have MK := Lib.hid hmk
  have MK2 := Lib.hid hmk2
  clear hmk hmk2
  have hS0 := hS
  have hM0 := hM
  obtain ⟨A, c, rfl, hc, hx⟩ := hS
  obtain ⟨A2, c2, rfl, hc2, hx2⟩ := hM
  have T2 := Lib.hid k.m
  have KK := Lib.hid k
  clear hx hx2 k
  obtain ⟨V, hV⟩ : ∃ V, V = sphR M S.length := ⟨_, rfl⟩
  rw [← hV]
  have HV := Lib.hid hV
  clear hV
  go_enter Tryd.func75, Tryd.ntmps75
  go_upto_region 1 with fail
  have hW : Arr (w.alloc (.cells #[.slice A S.length c, .slice A2 M.length c2, .int .i64 L] 61)) w.heap.size 61 [.slice A S.length c, .slice A2 M.length c2, .int .i64 L] ∧ Below w.heap.size w (w.alloc (.cells #[.slice A S.length c, .slice A2 M.length c2, .int .i64 L] 61)) := ⟨Arr.new w _ _, (Below.refl _ _).alloc (Nat.le_refl _) _⟩
  generalize (w.alloc (.cells #[.slice A S.length c, .slice A2 M.length c2, .int .i64 L] 61)) = w4 at hW ⊢
  obtain ⟨q0, hb4⟩ := hW
  have y0 := q0.cell 0
  have y1 := q0.cell 1
  have y2 := q0.cell 2
  have lw4 := q0.lt
  go_upto_region 2 with (go_at_call 89; refine (label_code _ _ S M L _ (hS0.below hb4) (hM0.below hb4) KK.out).mono ?_; rintro e w5 ⟨g, pl, p, rfl, hg5, a5, HP, hp5, hb5⟩)
  have HP' := Lib.hid HP
  have hpl := HP.len
  have hE := Lib.hid (exL_nil pl p)
  have hmk := MK.out p (by omega)
  clear HP y0 y1 y2 MK
  go_upto_region 3 with fail
  have hW : ∀ W, W = w5.alloc (.cells (rowOf (List.replicate p (Value.int .i64 0))) 3) → Arr W w5.heap.size 3 (ic (exL pl p 0 [])) ∧ Arr W g 3 (ic pl) ∧ Arr W w.heap.size 61 [.slice A S.length c, .slice A2 M.length c2, .int .i64 L] ∧ Below w.heap.size w W := by
    intro W hW
    subst hW
    have hb45 := hb4.trans (hb5.mono hb4.size)
    exact ⟨by rw [hE.out]; exact Arr.new w5 _ _, a5.alloc _, (q0.below hb5 lw4).alloc _, hb45.alloc hb45.size _⟩
  have lgE := a5.lt
  have lwg : w.heap.size < g := Nat.lt_of_lt_of_le lw4 hg5
  generalize hB : w5.heap.size = E at *
  generalize w5.alloc (.cells (rowOf (List.replicate p (Value.int .i64 0))) 3) = w6 at hW ⊢
  obtain ⟨e6, a6, q6, hb6⟩ := hW w6 rfl
  clear hB hW hmk a5 q0 hb4 hb5 hE lw4 hg5
  go_wp2_with fail
  go_loopg [7, 22] S.length (fun gk s7 s22 wr => ∃ k : Nat, k ≤ S.length ∧ gk = S.length - k ∧ s22 = .int .i64 (k : Int) ∧ Arr wr E 3 (ic (exL pl p k [])) ∧ Arr wr g 3 (ic pl) ∧ Arr wr w.heap.size 61 [.slice A S.length c, .slice A2 M.length c2, .int .i64 L] ∧ Below w.heap.size w wr)
  case atStart => exact ⟨0, Nat.zero_le _, rfl, rfl, e6, a6, q6, hb6⟩
  case round =>
    clear e6 a6 q6 hb6
    obtain ⟨k, hk, rfl, rfl, e6, a6, q6, hb6⟩ := hrel
    by_cases hlt : k < S.length
    · have z1 : (k : Int) < (S.length : Int) := by omega
      have zc := (a6.cell k).trans (ic_get (by omega))
      have h0 := HP'.out.low k hlt
      have h1 := HP'.out.rng k hlt
      obtain ⟨t, ht⟩ : ∃ t : Nat, gi pl k = (t : Int) := ⟨(gi pl k).toNat, by omega⟩
      have htp : t < p := by omega
      have HX := Lib.hid (exL_cross htp ht)
      rw [ht] at zc
      have hbd := exL_bd pl p k [] t
      have zd := (e6.cell t).trans (ic_get (by rw [exL_length]; exact htp))
      have zf := e6.frozen t
      have z2 : (t : Int) < (p : Int) := by omega
      simp only [List.length_nil] at hbd
      clear h0 h1 ht
      generalize gi (exL pl p k []) t = x at *
      go_wp2_with fail
      go_roundg (S.length - (k + 1))
      case measure => omega
      case rel => exact ⟨k + 1, by omega, rfl, by go_num, by rw [← HX.out, ← ic_set]; exact e6.set t _, a6.far (p := ⟨E, t, none⟩) (Nat.ne_of_lt lgE) _, q6.far (p := ⟨E, t, none⟩) (Nat.ne_of_lt (Nat.lt_trans lwg lgE)) _, hb6.setCell (p := ⟨E, t, none⟩) (Nat.le_of_lt (Nat.lt_trans lwg lgE)) _⟩
    · have z1 : ¬ ((k : Int) < (S.length : Int)) := by omega
      have e7 : Arr wr E 3 (ic (exL pl p S.length (hdU (phi M) M.length 0))) := by
        have hkn : k = S.length := by omega
        rw [hkn] at e6; exact e6
      clear e6
      have y1 := q6.cell 1
      have hmk2 := MK2.out
      have hmn := Lib.hid (marks_nil M.length)
      clear MK2
      go_upto_region 9 with fail
      have hW : ∀ W, W = wr.alloc (.cells (rowOf (List.replicate M.length (Value.bool false))) 4) → Arr W wr.heap.size 4 (marks M.length (fun _ => false)) ∧ Arr W E 3 (ic (exL pl p S.length (hdU (phi M) M.length 0))) ∧ Arr W g 3 (ic pl) ∧ Arr W w.heap.size 61 [.slice A S.length c, .slice A2 M.length c2, .int .i64 L] ∧ Below w.heap.size w W := by
        intro W hW
        subst hW
        exact ⟨by rw [hmn.out]; exact Arr.new wr _ _, e7.alloc _, a6.alloc _, q6.alloc _, hb6.alloc hb6.size _⟩
      have lED := e7.lt
      generalize hB : wr.heap.size = D at *
      generalize wr.alloc (.cells (rowOf (List.replicate M.length (Value.bool false))) 4) = w7 at hW ⊢
      obtain ⟨m7, e8, a8, q8, hb8⟩ := hW w7 rfl
      clear hB hW hmk2 e7 a6 q6 hb6 y1 hmn
      have y1 := q8.cell 1
      go_wp2_with fail
      clear y1 z1 hlt
      obtain ⟨wo, rfl⟩ : ∃ wo : World, wo = wr := ⟨_, rfl⟩
      go_loopg [9, 10, 40] M.length (fun gk s9 s10 s40 wi => ∃ (h : Nat) (T : Nat → Bool), h ≤ M.length ∧ gk = M.length - h ∧ s40 = .int .i64 (h : Int) ∧ Arr wi D 4 (marks M.length T) ∧ Arr wi E 3 (ic (exL pl p S.length (hdU (phi M) M.length h))) ∧ Arr wi g 3 (ic pl) ∧ Arr wi w.heap.size 61 [.slice A S.length c, .slice A2 M.length c2, .int .i64 L] ∧ Below w.heap.size w wi ∧ Hid (Mk (phi M) M.length h T))
      case atStart => exact ⟨0, _, Nat.zero_le _, rfl, rfl, m7, e8, a8, q8, hb8, Lib.hid Mk.start⟩
      case round =>
        clear m7 e8 a8 q8 hb8 hk
        obtain ⟨h, T, hh, rfl, rfl, m7, e8, a8, q8, hb8, HM⟩ := hrel
        by_cases hlt : h < M.length
        · have z1 : (h : Int) < (M.length : Int) := by omega
          have zs := (m7.cell h).trans (marks_get hlt)
          have HU := Lib.hid (hdU_succ (phi M) M.length h)
          by_cases hT : T h = true
          · have HI := HM.out.isH_old KK.out.perm hlt hT
            have HM2 := Lib.hid (HM.out.skip hlt hT)
            have HX := Lib.hid (show hdU (phi M) M.length (h + 1) = hdU (phi M) M.length h by rw [HU.out, HI]; simp)
            rw [hT] at zs
            clear hT HI HU HM
            go_wp2_with fail
            go_roundg (M.length - (h + 1))
            case measure => omega
            case rel => exact ⟨h + 1, T, by omega, rfl, by go_num, m7, by rw [HX.out]; exact e8, a8, q8, hb8, HM2⟩
          · have hT' : T h = false := by simpa using hT
            have HI := HM.out.isH_new KK.out.perm hlt hT'
            have HX := Lib.hid (show hdU (phi M) M.length (h + 1) = hdU (phi M) M.length h ++ [h] by rw [HU.out, HI]; simp)
            have HN := Lib.hid hT'
            rw [hT'] at zs
            clear hT hT' HI HU
            have h4 : h / 4 < S.length := by have := T2.out; omega
            have e5 : (h : Int) / 4 = ((h / 4 : Nat) : Int) := by omega
            have zc := (a8.cell (h / 4)).trans (ic_get (by omega))
            have h0 := HP'.out.low _ h4
            have h1 := HP'.out.rng _ h4
            obtain ⟨t, ht⟩ : ∃ t : Nat, gi pl (h / 4) = (t : Int) := ⟨(gi pl (h / 4)).toNat, by omega⟩
            have htp : t < p := by omega
            have HY := Lib.hid (exL_face (c := S.length) (hs := hdU (phi M) M.length h) htp ht)
            rw [ht] at zc
            have hbd := exL_bd pl p S.length (hdU (phi M) M.length h) t
            have hbl := hdU_len (phi M) M.length h
            have hbd2 : -64 ≤ gi (exL pl p S.length (hdU (phi M) M.length h)) t ∧ gi (exL pl p S.length (hdU (phi M) M.length h)) t ≤ 256 := by omega
            have zd := (e8.cell t).trans (ic_get (by rw [exL_length]; exact htp))
            have zf := e8.frozen t
            have z2 : (t : Int) < (p : Int) := by omega
            have z4 : ((h / 4 : Nat) : Int) < (S.length : Int) := by omega
            clear h0 h1 ht hbd hbl
            generalize gi (exL pl p S.length (hdU (phi M) M.length h)) t = x at *
            generalize h / 4 = h4' at *
            go_upto_region 14 with fail
            have hW : ∀ W, W = wr.setCell ⟨E, t, none⟩ (.int .i64 (x + 1)) → Arr W D 4 (marks M.length T) ∧ Arr W E 3 (ic (exL pl p S.length (hdU (phi M) M.length (h + 1)))) ∧ Arr W g 3 (ic pl) ∧ Arr W w.heap.size 61 [.slice A S.length c, .slice A2 M.length c2, .int .i64 L] ∧ Below w.heap.size w W := by
              intro W hW
              subst hW
              exact ⟨m7.far (p := ⟨E, t, none⟩) (Nat.ne_of_gt lED) _, by rw [HX.out, ← HY.out, ← ic_set]; exact e8.set t _, a8.far (p := ⟨E, t, none⟩) (Nat.ne_of_lt lgE) _, q8.far (p := ⟨E, t, none⟩) (Nat.ne_of_lt (Nat.lt_trans lwg lgE)) _, hb8.setCell (p := ⟨E, t, none⟩) (Nat.le_of_lt (Nat.lt_trans lwg lgE)) _⟩
            generalize wr.setCell ⟨E, t, none⟩ (.int .i64 (x + 1)) = w8 at hW ⊢
            obtain ⟨m9, e9, a9, q9, hb9⟩ := hW w8 rfl
            clear hW m7 e8 a8 q8 hb8 zs zc zd zf HX HY e5 z4
            go_wp2_with fail
            obtain ⟨wo2, rfl⟩ : ∃ wo : World, wo = wr := ⟨_, rfl⟩
            go_loopg [10] (M.length + 1) (fun gk s10 wi => ∃ (r : Nat) (R : Nat → Bool), r ≤ M.length ∧ gk = M.length + 1 - r ∧ s10 = .int .i64 (itr (phi M) r h : Nat) ∧ Arr wi D 4 (marks M.length R) ∧ Arr wi E 3 (ic (exL pl p S.length (hdU (phi M) M.length (h + 1)))) ∧ Arr wi g 3 (ic pl) ∧ Arr wi w.heap.size 61 [.slice A S.length c, .slice A2 M.length c2, .int .i64 L] ∧ Below w.heap.size w wi ∧ Hid (Mi (phi M) M.length h r T R))
            case atStart => exact ⟨0, T, Nat.zero_le _, rfl, rfl, m9, e9, a9, q9, hb9, Lib.hid Mi.start⟩
            case round =>
              clear m9 e9 a9 q9 hb9
              obtain ⟨r, R, hr, rfl, rfl, m9, e9, a9, q9, hb9, HR⟩ := hrel
              have hil := KK.out.perm.itr_lt hlt r
              have zs := (m9.cell (itr (phi M) r h)).trans (marks_get hil)
              have zf := m9.frozen (itr (phi M) r h)
              have HIS := Lib.hid (show itr (phi M) (r + 1) h = turnN (mt M (itr (phi M) r h)) 3 by rw [Nat.add_comm, itr_add]; rfl)
              have z3 : ((itr (phi M) r h : Nat) : Int) < (M.length : Int) := by omega
              by_cases hR : R (itr (phi M) r h) = true
              · have HM2 := Lib.hid (HR.out.done KK.out.perm hlt HM.out HN.out hR)
                rw [hR] at zs
                clear hR HR HIS
                generalize itr (phi M) r h = y at *
                go_wp2_with fail
                go_roundg (M.length - (h + 1))
                case measure => omega
                case rel => exact ⟨h + 1, R, by omega, rfl, by go_num, m9, e9, a9, q9, hb9, HM2⟩
              · have hR' : R (itr (phi M) r h) = false := by simpa using hR
                have HR2 := Lib.hid (HR.out.step KK.out.perm hlt hR')
                have hr1 := HR2.out.2
                rw [hR'] at zs
                clear hR hR' HR
                obtain ⟨b, o2, rfl, hbl, hcell⟩ := (hM0.below hb9).at_ hil
                have hpos := KK.out.pos _ hil
                have hmlt := KK.out.lt _ hil
                have hmt : mt M (itr (phi M) r h) = M[itr (phi M) r h].toNat := by unfold mt; rw [getD_lt hil]
                obtain ⟨m, hm⟩ : ∃ m : Nat, M[itr (phi M) r h] = (m : Int) := ⟨M[itr (phi M) r h].toNat, by omega⟩
                rw [hm] at hcell hmt
                have hmt2 : mt M (itr (phi M) r h) = m := by omega
                have HIS2 := Lib.hid (show itr (phi M) (r + 1) h = turnN m 3 by rw [HIS.out, hmt2])
                have hm2 : m < 1000 := by omega
                clear hpos hmlt hmt hm hmt2 HIS
                generalize itr (phi M) r h = y at *
                go_upto_region 16 with fail
                have hbD : b < D := by
                  have h1 := (hM0.at_ (k := 0) (by omega))
                  obtain ⟨b', o', hA, hbl', _⟩ := h1
                  injection hA with hA
                  injection hA with hA1 hA2
                  subst hA1
                  omega
                have hW : ∀ W, W = wr.setCell ⟨D, y, none⟩ (.bool true) → Arr W D 4 (marks M.length (mark R y)) ∧ Arr W E 3 (ic (exL pl p S.length (hdU (phi M) M.length (h + 1)))) ∧ Arr W g 3 (ic pl) ∧ Arr W w.heap.size 61 [.slice A S.length c, .slice (some ⟨b, o2, none⟩) M.length c2, .int .i64 L] ∧ Below w.heap.size w W ∧ W.cell? ⟨b, o2 + y, none⟩ = some (.int .i64 (m : Int)) := by
                  intro W hW
                  subst hW
                  refine ⟨by rw [← marks_set]; exact m9.set y _, e9.far (p := ⟨D, y, none⟩) (Nat.ne_of_lt lED) _, a9.far (p := ⟨D, y, none⟩) (Nat.ne_of_lt (Nat.lt_trans lgE lED)) _, q9.far (p := ⟨D, y, none⟩) (Nat.ne_of_lt (Nat.lt_trans (Nat.lt_trans lwg lgE) lED)) _, hb9.setCell (p := ⟨D, y, none⟩) (Nat.le_of_lt (Nat.lt_trans (Nat.lt_trans lwg lgE) lED)) _, ?_⟩
                  rw [← hcell]
                  have := ((Below.refl D wr).setCell (p := ⟨D, y, none⟩) (Nat.le_refl _) (.bool true)).cell (p := ⟨b, o2 + y, none⟩) hbD
                  exact this
                generalize wr.setCell ⟨D, y, none⟩ (.bool true) = w9 at hW ⊢
                obtain ⟨m10, e10, a10, q10, hb10, hcell2⟩ := hW w9 rfl
                clear hW m9 e9 a9 q9 hb9 zs zf hcell
                have y1 := q10.cell 1
                go_wp2_with (go_at_call 90; refine (turn_code m _ hm2).mono ?_; rintro e w11 ⟨rfl, rfl⟩)
                go_roundg (M.length + 1 - (r + 1))
                case measure => omega
                case rel => exact ⟨r + 1, mark R y, by omega, rfl, by rw [HIS2.out], m10, e10, a10, q10, hb10, Lib.hid HR2.out.1⟩
        · have z1 : ¬ ((h : Int) < (M.length : Int)) := by omega
          have e9 : Arr wr E 3 (ic (exL pl p S.length (hdU (phi M) M.length M.length))) := by
            have hkn : h = M.length := by omega
            rw [hkn] at e8; exact e8
          clear e8 HM m7
          have HNO := Lib.hid (fun q (hq : q < p) h => sph_no KK.out HP'.out hq h)
          have HYES := Lib.hid (fun H => sph_yes KK.out HP'.out H)
          have hlE := exL_length pl p S.length (hdU (phi M) M.length M.length)
          generalize exL pl p S.length (hdU (phi M) M.length M.length) = ex at *
          go_wp2_with fail
          clear z1 hlt hh
          obtain ⟨wo2, rfl⟩ : ∃ wo : World, wo = wr := ⟨_, rfl⟩
          go_loopg [12, 75] p (fun gk s12 s75 wi => ∃ q : Nat, q ≤ p ∧ gk = p - q ∧ s75 = .int .i64 (q : Int) ∧ Arr wi E 3 (ic ex) ∧ Below w.heap.size w wi ∧ Hid (∀ i, i < q → gi ex i = 2))
          case atStart => exact ⟨0, Nat.zero_le _, rfl, rfl, e9, hb8, Lib.hid fun i hi => by omega⟩
          case round =>
            clear e9 hb8
            obtain ⟨q, hq, rfl, rfl, e9, hb8, HQ⟩ := hrel
            by_cases hlt : q < p
            · have z1 : (q : Int) < (p : Int) := by omega
              have zc := (e9.cell q).trans (ic_get (by omega))
              by_cases he : gi ex q = 2
              · have HQ2 : Hid (∀ i, i < q + 1 → gi ex i = 2) := Lib.hid fun i hi => by
                  rcases Nat.lt_or_ge i q with h1 | h1
                  · exact HQ.out i h1
                  · have : i = q := by omega
                    subst this; exact he
                rw [he] at zc
                clear he HQ
                go_wp2_with fail
                go_roundg (p - (q + 1))
                case measure => omega
                case rel => exact ⟨q + 1, by omega, rfl, by go_num, e9, hb8, HQ2⟩
              · have HE := Lib.hid (HV.out.trans (HNO.out q hlt he))
                generalize gi ex q = x at *
                have he' : (x != 2) = true := by simp [he]
                go_wp2_with fail
                go_ret
                exact ⟨by rw [HE.out]; rfl, hb8⟩
            · have z1 : ¬ ((q : Int) < (p : Int)) := by omega
              have HE := Lib.hid (HV.out.trans (HYES.out fun i hi => HQ.out i (by omega)))
              go_wp2_with fail
              go_ret
              exact ⟨by rw [HE.out]; rfl, hb8⟩
end Go.Proofs.YtlbihllmpbhhcaaDoor

namespace Go.Proofs.YtlbihllmpbhhcaaDoor
open Go.RowKit
set_option linter.unusedVariables false

/-- a call that leaves the world alone, inside a region that reads -/
theorem quietL {P : Program} {f : FuncId} {args : Array Value} {w : World} {n : Nat} {v : Value} (h : Calls P f args (w.drewN n) fun e w' => e = .returned v ∧ w.drewN n = w') : Calls P f args (w.drewN n) fun e w'' => e = .returned v ∧ ∃ m, w'' = w.drewN m :=
  h.mono fun _ _ hh => ⟨hh.1, n, hh.2.symm⟩

theorem ok_size {S M : List Int} {L : Int} (h : ¬ S.length ≤ 64) : valB S M L = false := by simp [valB, okB, h]
theorem ok_mate {S M : List Int} {L : Int} (h : ¬ M.length = 4 * S.length) : valB S M L = false := by simp [valB, okB, h]
theorem ok_low {S M : List Int} {L : Int} (h : ¬ 0 ≤ L) : valB S M L = false := by simp [valB, okB, h]
theorem ok_high {S M : List Int} {L : Int} (h : ¬ L ≤ 64) : valB S M L = false := by simp [valB, okB, h]
theorem ok_sign {S M : List Int} {L : Int} {k : Nat} (hk : k < S.length) (h1 : ¬ S[k] = 1) (h2 : ¬ S[k] = -1) : valB S M L = false := by
  have : S.all sgB = false := by
    rw [Bool.eq_false_iff]
    intro e
    have := List.all_eq_true.1 e S[k] (List.getElem_mem hk)
    simp [sgB, h1, h2] at this
  simp [valB, okB, this]
theorem ok_at {S M : List Int} {L : Int} {h : Nat} (hk : h < M.length) (h1 : mtB S M h = false) : valB S M L = false := by
  have : (List.range M.length).all (mtB S M) = false := by
    rw [Bool.eq_false_iff]
    intro e
    have := List.all_eq_true.1 e h (List.mem_range.2 hk)
    rw [h1] at this; cases this
  simp [valB, okB, this]
theorem ok_make {S M : List Int} {L : Int} (h1 : S.length ≤ 64) (h2 : M.length = 4 * S.length) (h3 : 0 ≤ L) (h4 : L ≤ 64) (h5 : ∀ i (h : i < S.length), S[i] = 1 ∨ S[i] = -1) (h6 : ∀ h, h < M.length → mtB S M h = true) : okB S M L = true := by
  unfold okB
  simp only [Bool.and_eq_true, decide_eq_true_eq, List.all_eq_true, List.mem_range]
  refine ⟨h1, h2, h3, h4, ?_, h6⟩
  intro s hs
  obtain ⟨i, hi, rfl⟩ := List.getElem_of_mem hs
  simpa [sgB] using h5 i hi

end Go.Proofs.YtlbihllmpbhhcaaDoor
