/- diagram.spherical: the walk. -/
/- unravelref01.Valid. -/
import Derived.Test.YtcjaloddgilnpaaZSpp
import Derived.Test.YtcjaloddgilnpaaZQue
namespace Go.Proofs.Ytcjaloddgilnpaa
open Go.RowKit
set_option linter.unusedVariables false

theorem info_bool : (Try.prog.info? 4).map (fun i => (i.zero, i.size, i.bytes)) = some (some (.bool false), 1, 1) := by kernel_rfl

set_option maxHeartbeats 4000000 in
set_option maxRecDepth 100000 in
theorem spherical_code (vs vm : Value) (S M : List Int) (L : Int) (w : World) (hS : Ints w vs S) (hM : Ints w vm M) (k : Ok S M L) :
    Calls Try.prog 63 #[.agg #[vs, vm, .int .i64 L]] w fun e w' => e = .returned (.bool (sphR M S.length)) ∧ Below w.heap.size w w' := by
  obtain ⟨i0, hi0, hz0, hz1, hz2⟩ := info_parts info_int
  obtain ⟨i1, hi1, hy0, hy1, hy2⟩ := info_parts info_bool
  have hn := k.n
  have hmk := fun (p : Nat) (hp : p ≤ 64) W => run_make_one (P := Try.prog) 22 3 i0 (.int .i64 0) Try.underlying22 hi0 hz0 hz1 rfl (by rw [hz2]; decide) p (by omega) W
  have hml : M.length ≤ 256 := by have := k.m; omega
  have hmk2 := fun W => run_make_one (P := Try.prog) 78 4 i1 (.bool false) Try.underlying78 hi1 hy0 hy1 rfl (by rw [hy2]; decide) M.length (by omega) W
  have MK := Lib.hid hmk
  have MK2 := Lib.hid hmk2
  clear hmk hmk2
  have hS0 := hS
  have hM0 := hM
  obtain ⟨A, c, rfl, hc, hx⟩ := hS
  obtain ⟨A2, c2, rfl, hc2, hx2⟩ := hM
  have T2 := Lib.hid k.m
  have KK := Lib.hid k
  clear hx hx2 k
  obtain ⟨V, hV⟩ : ∃ V, V = sphR M S.length := ⟨_, rfl⟩
  rw [← hV]
  have HV := Lib.hid hV
  clear hV
  go_enter Try.func63, Try.ntmps63
  go_upto_region 1 with fail
  have hW : Arr (w.alloc (.cells #[.slice A S.length c, .slice A2 M.length c2, .int .i64 L] 24)) w.heap.size 24 [.slice A S.length c, .slice A2 M.length c2, .int .i64 L] ∧ Below w.heap.size w (w.alloc (.cells #[.slice A S.length c, .slice A2 M.length c2, .int .i64 L] 24)) := ⟨Arr.new w _ _, (Below.refl _ _).alloc (Nat.le_refl _) _⟩
  generalize (w.alloc (.cells #[.slice A S.length c, .slice A2 M.length c2, .int .i64 L] 24)) = w4 at hW ⊢
  obtain ⟨q0, hb4⟩ := hW
  have y0 := q0.cell 0
  have y1 := q0.cell 1
  have y2 := q0.cell 2
  have lw4 := q0.lt
  go_upto_region 2 with (go_at_call 78; refine (label_code _ _ S M L _ (hS0.below hb4) (hM0.below hb4) KK.out).mono ?_; rintro e w5 ⟨g, pl, p, rfl, hg5, a5, HP, hp5, hb5⟩)
  have HP' := Lib.hid HP
  have hpl := HP.len
  have hE := Lib.hid (exL_nil pl p)
  have hmk := MK.out p (by omega)
  clear HP y0 y1 y2 MK
  go_upto_region 3 with fail
  have hW : ∀ W, W = w5.alloc (.cells (rowOf (List.replicate p (Value.int .i64 0))) 3) → Arr W w5.heap.size 3 (ic (exL pl p 0 [])) ∧ Arr W g 3 (ic pl) ∧ Arr W w.heap.size 24 [.slice A S.length c, .slice A2 M.length c2, .int .i64 L] ∧ Below w.heap.size w W := by
    intro W hW
    subst hW
    have hb45 := hb4.trans (hb5.mono hb4.size)
    exact ⟨by rw [hE.out]; exact Arr.new w5 _ _, a5.alloc _, (q0.below hb5 lw4).alloc _, hb45.alloc hb45.size _⟩
  have lgE := a5.lt
  have lwg : w.heap.size < g := Nat.lt_of_lt_of_le lw4 hg5
  generalize hB : w5.heap.size = E at *
  generalize w5.alloc (.cells (rowOf (List.replicate p (Value.int .i64 0))) 3) = w6 at hW ⊢
  obtain ⟨e6, a6, q6, hb6⟩ := hW w6 rfl
  clear hB hW hmk a5 q0 hb4 hb5 hE lw4 hg5
  go_wp2_with fail
  go_loopg [7, 22] S.length (fun gk s7 s22 wr => ∃ k : Nat, k ≤ S.length ∧ gk = S.length - k ∧ s22 = .int .i64 (k : Int) ∧ Arr wr E 3 (ic (exL pl p k [])) ∧ Arr wr g 3 (ic pl) ∧ Arr wr w.heap.size 24 [.slice A S.length c, .slice A2 M.length c2, .int .i64 L] ∧ Below w.heap.size w wr)
  case atStart => exact ⟨0, Nat.zero_le _, rfl, rfl, e6, a6, q6, hb6⟩
  case round =>
    clear e6 a6 q6 hb6
    obtain ⟨k, hk, rfl, rfl, e6, a6, q6, hb6⟩ := hrel
    by_cases hlt : k < S.length
    · have z1 : (k : Int) < (S.length : Int) := by omega
      have zc := (a6.cell k).trans (ic_get (by omega))
      have h0 := HP'.out.low k hlt
      have h1 := HP'.out.rng k hlt
      obtain ⟨t, ht⟩ : ∃ t : Nat, gi pl k = (t : Int) := ⟨(gi pl k).toNat, by omega⟩
      have htp : t < p := by omega
      have HX := Lib.hid (exL_cross htp ht)
      rw [ht] at zc
      have hbd := exL_bd pl p k [] t
      have zd := (e6.cell t).trans (ic_get (by rw [exL_length]; exact htp))
      have zf := e6.frozen t
      have z2 : (t : Int) < (p : Int) := by omega
      simp only [List.length_nil] at hbd
      clear h0 h1 ht
      generalize gi (exL pl p k []) t = x at *
      go_wp2_with fail
      go_roundg (S.length - (k + 1))
      case measure => omega
      case rel => exact ⟨k + 1, by omega, rfl, by go_num, by rw [← HX.out, ← ic_set]; exact e6.set t _, a6.far (p := ⟨E, t, none⟩) (Nat.ne_of_lt lgE) _, q6.far (p := ⟨E, t, none⟩) (Nat.ne_of_lt (Nat.lt_trans lwg lgE)) _, hb6.setCell (p := ⟨E, t, none⟩) (Nat.le_of_lt (Nat.lt_trans lwg lgE)) _⟩
    · have z1 : ¬ ((k : Int) < (S.length : Int)) := by omega
      have e7 : Arr wr E 3 (ic (exL pl p S.length (hdU (phi M) M.length 0))) := by
        have hkn : k = S.length := by omega
        rw [hkn] at e6; exact e6
      clear e6
      have y1 := q6.cell 1
      have hmk2 := MK2.out
      have hmn := Lib.hid (marks_nil M.length)
      clear MK2
      go_upto_region 9 with fail
      have hW : ∀ W, W = wr.alloc (.cells (rowOf (List.replicate M.length (Value.bool false))) 4) → Arr W wr.heap.size 4 (marks M.length (fun _ => false)) ∧ Arr W E 3 (ic (exL pl p S.length (hdU (phi M) M.length 0))) ∧ Arr W g 3 (ic pl) ∧ Arr W w.heap.size 24 [.slice A S.length c, .slice A2 M.length c2, .int .i64 L] ∧ Below w.heap.size w W := by
        intro W hW
        subst hW
        exact ⟨by rw [hmn.out]; exact Arr.new wr _ _, e7.alloc _, a6.alloc _, q6.alloc _, hb6.alloc hb6.size _⟩
      have lED := e7.lt
      generalize hB : wr.heap.size = D at *
      generalize wr.alloc (.cells (rowOf (List.replicate M.length (Value.bool false))) 4) = w7 at hW ⊢
      obtain ⟨m7, e8, a8, q8, hb8⟩ := hW w7 rfl
      clear hB hW hmk2 e7 a6 q6 hb6 y1 hmn
      have y1 := q8.cell 1
      go_wp2_with fail
      clear y1 z1 hlt
      obtain ⟨wo, rfl⟩ : ∃ wo : World, wo = wr := ⟨_, rfl⟩
      go_loopg [9, 10, 40] M.length (fun gk s9 s10 s40 wi => ∃ (h : Nat) (T : Nat → Bool), h ≤ M.length ∧ gk = M.length - h ∧ s40 = .int .i64 (h : Int) ∧ Arr wi D 4 (marks M.length T) ∧ Arr wi E 3 (ic (exL pl p S.length (hdU (phi M) M.length h))) ∧ Arr wi g 3 (ic pl) ∧ Arr wi w.heap.size 24 [.slice A S.length c, .slice A2 M.length c2, .int .i64 L] ∧ Below w.heap.size w wi ∧ Hid (Mk (phi M) M.length h T))
      case atStart => exact ⟨0, _, Nat.zero_le _, rfl, rfl, m7, e8, a8, q8, hb8, Lib.hid Mk.start⟩
      case round =>
        clear m7 e8 a8 q8 hb8 hk
        obtain ⟨h, T, hh, rfl, rfl, m7, e8, a8, q8, hb8, HM⟩ := hrel
        by_cases hlt : h < M.length
        · have z1 : (h : Int) < (M.length : Int) := by omega
          have zs := (m7.cell h).trans (marks_get hlt)
          have HU := Lib.hid (hdU_succ (phi M) M.length h)
          by_cases hT : T h = true
          · have HI := HM.out.isH_old KK.out.perm hlt hT
            have HM2 := Lib.hid (HM.out.skip hlt hT)
            have HX := Lib.hid (show hdU (phi M) M.length (h + 1) = hdU (phi M) M.length h by rw [HU.out, HI]; simp)
            rw [hT] at zs
            clear hT HI HU HM
            go_wp2_with fail
            go_roundg (M.length - (h + 1))
            case measure => omega
            case rel => exact ⟨h + 1, T, by omega, rfl, by go_num, m7, by rw [HX.out]; exact e8, a8, q8, hb8, HM2⟩
          · have hT' : T h = false := by simpa using hT
            have HI := HM.out.isH_new KK.out.perm hlt hT'
            have HX := Lib.hid (show hdU (phi M) M.length (h + 1) = hdU (phi M) M.length h ++ [h] by rw [HU.out, HI]; simp)
            have HN := Lib.hid hT'
            rw [hT'] at zs
            clear hT hT' HI HU
            have h4 : h / 4 < S.length := by have := T2.out; omega
            have e5 : (h : Int) / 4 = ((h / 4 : Nat) : Int) := by omega
            have zc := (a8.cell (h / 4)).trans (ic_get (by omega))
            have h0 := HP'.out.low _ h4
            have h1 := HP'.out.rng _ h4
            obtain ⟨t, ht⟩ : ∃ t : Nat, gi pl (h / 4) = (t : Int) := ⟨(gi pl (h / 4)).toNat, by omega⟩
            have htp : t < p := by omega
            have HY := Lib.hid (exL_face (c := S.length) (hs := hdU (phi M) M.length h) htp ht)
            rw [ht] at zc
            have hbd := exL_bd pl p S.length (hdU (phi M) M.length h) t
            have hbl := hdU_len (phi M) M.length h
            have hbd2 : -64 ≤ gi (exL pl p S.length (hdU (phi M) M.length h)) t ∧ gi (exL pl p S.length (hdU (phi M) M.length h)) t ≤ 256 := by omega
            have zd := (e8.cell t).trans (ic_get (by rw [exL_length]; exact htp))
            have zf := e8.frozen t
            have z2 : (t : Int) < (p : Int) := by omega
            have z4 : ((h / 4 : Nat) : Int) < (S.length : Int) := by omega
            clear h0 h1 ht hbd hbl
            generalize gi (exL pl p S.length (hdU (phi M) M.length h)) t = x at *
            generalize h / 4 = h4' at *
            go_upto_region 14 with fail
            have hW : ∀ W, W = wr.setCell ⟨E, t, none⟩ (.int .i64 (x + 1)) → Arr W D 4 (marks M.length T) ∧ Arr W E 3 (ic (exL pl p S.length (hdU (phi M) M.length (h + 1)))) ∧ Arr W g 3 (ic pl) ∧ Arr W w.heap.size 24 [.slice A S.length c, .slice A2 M.length c2, .int .i64 L] ∧ Below w.heap.size w W := by
              intro W hW
              subst hW
              exact ⟨m7.far (p := ⟨E, t, none⟩) (Nat.ne_of_gt lED) _, by rw [HX.out, ← HY.out, ← ic_set]; exact e8.set t _, a8.far (p := ⟨E, t, none⟩) (Nat.ne_of_lt lgE) _, q8.far (p := ⟨E, t, none⟩) (Nat.ne_of_lt (Nat.lt_trans lwg lgE)) _, hb8.setCell (p := ⟨E, t, none⟩) (Nat.le_of_lt (Nat.lt_trans lwg lgE)) _⟩
            generalize wr.setCell ⟨E, t, none⟩ (.int .i64 (x + 1)) = w8 at hW ⊢
            obtain ⟨m9, e9, a9, q9, hb9⟩ := hW w8 rfl
            clear hW m7 e8 a8 q8 hb8 zs zc zd zf HX HY e5 z4
            go_wp2_with fail
            obtain ⟨wo2, rfl⟩ : ∃ wo : World, wo = wr := ⟨_, rfl⟩
            go_loopg [10] (M.length + 1) (fun gk s10 wi => ∃ (r : Nat) (R : Nat → Bool), r ≤ M.length ∧ gk = M.length + 1 - r ∧ s10 = .int .i64 (itr (phi M) r h : Nat) ∧ Arr wi D 4 (marks M.length R) ∧ Arr wi E 3 (ic (exL pl p S.length (hdU (phi M) M.length (h + 1)))) ∧ Arr wi g 3 (ic pl) ∧ Arr wi w.heap.size 24 [.slice A S.length c, .slice A2 M.length c2, .int .i64 L] ∧ Below w.heap.size w wi ∧ Hid (Mi (phi M) M.length h r T R))
            case atStart => exact ⟨0, T, Nat.zero_le _, rfl, rfl, m9, e9, a9, q9, hb9, Lib.hid Mi.start⟩
            case round =>
              clear m9 e9 a9 q9 hb9
              obtain ⟨r, R, hr, rfl, rfl, m9, e9, a9, q9, hb9, HR⟩ := hrel
              have hil := KK.out.perm.itr_lt hlt r
              have zs := (m9.cell (itr (phi M) r h)).trans (marks_get hil)
              have zf := m9.frozen (itr (phi M) r h)
              have HIS := Lib.hid (show itr (phi M) (r + 1) h = turnN (mt M (itr (phi M) r h)) 3 by rw [Nat.add_comm, itr_add]; rfl)
              have z3 : ((itr (phi M) r h : Nat) : Int) < (M.length : Int) := by omega
              by_cases hR : R (itr (phi M) r h) = true
              · have HM2 := Lib.hid (HR.out.done KK.out.perm hlt HM.out HN.out hR)
                rw [hR] at zs
                clear hR HR HIS
                generalize itr (phi M) r h = y at *
                go_wp2_with fail
                go_roundg (M.length - (h + 1))
                case measure => omega
                case rel => exact ⟨h + 1, R, by omega, rfl, by go_num, m9, e9, a9, q9, hb9, HM2⟩
              · have hR' : R (itr (phi M) r h) = false := by simpa using hR
                have HR2 := Lib.hid (HR.out.step KK.out.perm hlt hR')
                have hr1 := HR2.out.2
                rw [hR'] at zs
                clear hR hR' HR
                obtain ⟨b, o2, rfl, hbl, hcell⟩ := (hM0.below hb9).at_ hil
                have hpos := KK.out.pos _ hil
                have hmlt := KK.out.lt _ hil
                have hmt : mt M (itr (phi M) r h) = M[itr (phi M) r h].toNat := by unfold mt; rw [getD_lt hil]
                obtain ⟨m, hm⟩ : ∃ m : Nat, M[itr (phi M) r h] = (m : Int) := ⟨M[itr (phi M) r h].toNat, by omega⟩
                rw [hm] at hcell hmt
                have hmt2 : mt M (itr (phi M) r h) = m := by omega
                have HIS2 := Lib.hid (show itr (phi M) (r + 1) h = turnN m 3 by rw [HIS.out, hmt2])
                have hm2 : m < 1000 := by omega
                clear hpos hmlt hmt hm hmt2 HIS
                generalize itr (phi M) r h = y at *
                go_upto_region 16 with fail
                have hbD : b < D := by
                  have h1 := (hM0.at_ (k := 0) (by omega))
                  obtain ⟨b', o', hA, hbl', _⟩ := h1
                  injection hA with hA
                  injection hA with hA1 hA2
                  subst hA1
                  omega
                have hW : ∀ W, W = wr.setCell ⟨D, y, none⟩ (.bool true) → Arr W D 4 (marks M.length (mark R y)) ∧ Arr W E 3 (ic (exL pl p S.length (hdU (phi M) M.length (h + 1)))) ∧ Arr W g 3 (ic pl) ∧ Arr W w.heap.size 24 [.slice A S.length c, .slice (some ⟨b, o2, none⟩) M.length c2, .int .i64 L] ∧ Below w.heap.size w W ∧ W.cell? ⟨b, o2 + y, none⟩ = some (.int .i64 (m : Int)) := by
                  intro W hW
                  subst hW
                  refine ⟨by rw [← marks_set]; exact m9.set y _, e9.far (p := ⟨D, y, none⟩) (Nat.ne_of_lt lED) _, a9.far (p := ⟨D, y, none⟩) (Nat.ne_of_lt (Nat.lt_trans lgE lED)) _, q9.far (p := ⟨D, y, none⟩) (Nat.ne_of_lt (Nat.lt_trans (Nat.lt_trans lwg lgE) lED)) _, hb9.setCell (p := ⟨D, y, none⟩) (Nat.le_of_lt (Nat.lt_trans (Nat.lt_trans lwg lgE) lED)) _, ?_⟩
                  rw [← hcell]
                  have := ((Below.refl D wr).setCell (p := ⟨D, y, none⟩) (Nat.le_refl _) (.bool true)).cell (p := ⟨b, o2 + y, none⟩) hbD
                  exact this
                generalize wr.setCell ⟨D, y, none⟩ (.bool true) = w9 at hW ⊢
                obtain ⟨m10, e10, a10, q10, hb10, hcell2⟩ := hW w9 rfl
                clear hW m9 e9 a9 q9 hb9 zs zf hcell
                have y1 := q10.cell 1
                go_wp2_with (go_at_call 74; refine (turn_code m _ hm2).mono ?_; rintro e w11 ⟨rfl, rfl⟩)
                go_roundg (M.length + 1 - (r + 1))
                case measure => omega
                case rel => exact ⟨r + 1, mark R y, by omega, rfl, by rw [HIS2.out], m10, e10, a10, q10, hb10, Lib.hid HR2.out.1⟩
        · have z1 : ¬ ((h : Int) < (M.length : Int)) := by omega
          have e9 : Arr wr E 3 (ic (exL pl p S.length (hdU (phi M) M.length M.length))) := by
            have hkn : h = M.length := by omega
            rw [hkn] at e8; exact e8
          clear e8 HM m7
          have HNO := Lib.hid (fun q (hq : q < p) h => sph_no KK.out HP'.out hq h)
          have HYES := Lib.hid (fun H => sph_yes KK.out HP'.out H)
          have hlE := exL_length pl p S.length (hdU (phi M) M.length M.length)
          generalize exL pl p S.length (hdU (phi M) M.length M.length) = ex at *
          go_wp2_with fail
          clear z1 hlt hh
          obtain ⟨wo2, rfl⟩ : ∃ wo : World, wo = wr := ⟨_, rfl⟩
          go_loopg [12, 75] p (fun gk s12 s75 wi => ∃ q : Nat, q ≤ p ∧ gk = p - q ∧ s75 = .int .i64 (q : Int) ∧ Arr wi E 3 (ic ex) ∧ Below w.heap.size w wi ∧ Hid (∀ i, i < q → gi ex i = 2))
          case atStart => exact ⟨0, Nat.zero_le _, rfl, rfl, e9, hb8, Lib.hid fun i hi => by omega⟩
          case round =>
            clear e9 hb8
            obtain ⟨q, hq, rfl, rfl, e9, hb8, HQ⟩ := hrel
            by_cases hlt : q < p
            · have z1 : (q : Int) < (p : Int) := by omega
              have zc := (e9.cell q).trans (ic_get (by omega))
              by_cases he : gi ex q = 2
              · have HQ2 : Hid (∀ i, i < q + 1 → gi ex i = 2) := Lib.hid fun i hi => by
                  rcases Nat.lt_or_ge i q with h1 | h1
                  · exact HQ.out i h1
                  · have : i = q := by omega
                    subst this; exact he
                rw [he] at zc
                clear he HQ
                go_wp2_with fail
                go_roundg (p - (q + 1))
                case measure => omega
                case rel => exact ⟨q + 1, by omega, rfl, by go_num, e9, hb8, HQ2⟩
              · have HE := Lib.hid (HV.out.trans (HNO.out q hlt he))
                generalize gi ex q = x at *
                have he' : (x != 2) = true := by simp [he]
                go_wp2_with fail
                go_ret
                exact ⟨by rw [HE.out]; rfl, hb8⟩
            · have z1 : ¬ ((q : Int) < (p : Int)) := by omega
              have HE := Lib.hid (HV.out.trans (HYES.out fun i hi => HQ.out i (by omega)))
              go_wp2_with fail
              go_ret
              exact ⟨by rw [HE.out]; rfl, hb8⟩
end Go.Proofs.Ytcjaloddgilnpaa

namespace Go.Proofs.Ytcjaloddgilnpaa
open Go.RowKit
set_option linter.unusedVariables false

/-- a call that leaves the world alone, inside a region that reads -/
theorem quietL {P : Program} {f : FuncId} {args : Array Value} {w : World} {n : Nat} {v : Value} (h : Calls P f args (w.drewN n) fun e w' => e = .returned v ∧ w.drewN n = w') : Calls P f args (w.drewN n) fun e w'' => e = .returned v ∧ ∃ m, w'' = w.drewN m :=
  h.mono fun _ _ hh => ⟨hh.1, n, hh.2.symm⟩

theorem ok_size {S M : List Int} {L : Int} (h : ¬ S.length ≤ 64) : valB S M L = false := by simp [valB, okB, h]
theorem ok_mate {S M : List Int} {L : Int} (h : ¬ M.length = 4 * S.length) : valB S M L = false := by simp [valB, okB, h]
theorem ok_low {S M : List Int} {L : Int} (h : ¬ 0 ≤ L) : valB S M L = false := by simp [valB, okB, h]
theorem ok_high {S M : List Int} {L : Int} (h : ¬ L ≤ 64) : valB S M L = false := by simp [valB, okB, h]
theorem ok_sign {S M : List Int} {L : Int} {k : Nat} (hk : k < S.length) (h1 : ¬ S[k] = 1) (h2 : ¬ S[k] = -1) : valB S M L = false := by
  have : S.all sgB = false := by
    rw [Bool.eq_false_iff]
    intro e
    have := List.all_eq_true.1 e S[k] (List.getElem_mem hk)
    simp [sgB, h1, h2] at this
  simp [valB, okB, this]
theorem ok_at {S M : List Int} {L : Int} {h : Nat} (hk : h < M.length) (h1 : mtB S M h = false) : valB S M L = false := by
  have : (List.range M.length).all (mtB S M) = false := by
    rw [Bool.eq_false_iff]
    intro e
    have := List.all_eq_true.1 e h (List.mem_range.2 hk)
    rw [h1] at this; cases this
  simp [valB, okB, this]
theorem ok_make {S M : List Int} {L : Int} (h1 : S.length ≤ 64) (h2 : M.length = 4 * S.length) (h3 : 0 ≤ L) (h4 : L ≤ 64) (h5 : ∀ i (h : i < S.length), S[i] = 1 ∨ S[i] = -1) (h6 : ∀ h, h < M.length → mtB S M h = true) : okB S M L = true := by
  unfold okB
  simp only [Bool.and_eq_true, decide_eq_true_eq, List.all_eq_true, List.mem_range]
  refine ⟨h1, h2, h3, h4, ?_, h6⟩
  intro s hs
  obtain ⟨i, hi, rfl⟩ := List.getElem_of_mem hs
  simpa [sgB] using h5 i hi

set_option maxHeartbeats 4000000 in
set_option maxRecDepth 100000 in
theorem valid_ref (vs vm : Value) (S M : List Int) (L : Int) (w : World) (hS : Ints w vs S) (hM : Ints w vm M) :
    Calls Try.prog 12 #[.agg #[vs, vm, .int .i64 L]] w fun e w' => e = .returned (.bool (valB S M L)) ∧ Below w.heap.size w w' := by
  have hS0 := hS
  have hM0 := hM
  obtain ⟨A, c, rfl, hc, hx⟩ := hS
  obtain ⟨A2, c2, rfl, hc2, hx2⟩ := hM
  clear hx hx2
  obtain ⟨V, hV⟩ : ∃ V, V = valB S M L := ⟨_, rfl⟩
  rw [← hV]
  have HV := Lib.hid hV
  clear hV
  go_enter Try.func12, Try.ntmps12
  go_upto_region 1 with fail
  have hW : Arr (w.alloc (.cells #[.slice A S.length c, .slice A2 M.length c2, .int .i64 L] 24)) w.heap.size 24 [.slice A S.length c, .slice A2 M.length c2, .int .i64 L] ∧ Below w.heap.size w (w.alloc (.cells #[.slice A S.length c, .slice A2 M.length c2, .int .i64 L] 24)) := ⟨Arr.new w _ _, (Below.refl _ _).alloc (Nat.le_refl _) _⟩
  generalize (w.alloc (.cells #[.slice A S.length c, .slice A2 M.length c2, .int .i64 L] 24)) = w4 at hW ⊢
  obtain ⟨q0, hb4⟩ := hW
  have y0 := q0.cell 0
  have y1 := q0.cell 1
  have y2 := q0.cell 2
  by_cases t1 : S.length ≤ 64
  case neg =>
    have t1' : (S.length : Int) > 64 := by omega
    have HE := Lib.hid (HV.out.trans (ok_size t1))
    go_wp2_with fail
    go_ret
    exact ⟨by rw [HE.out]; rfl, hb4⟩
  have t1' : ¬ ((S.length : Int) > 64) := by omega
  by_cases t2 : M.length = 4 * S.length
  case neg =>
    have t2' : ¬ ((M.length : Int) = 4 * (S.length : Int)) := by omega
    have HE := Lib.hid (HV.out.trans (ok_mate t2))
    generalize M.length = m at *
    go_wp2_with fail
    go_ret
    exact ⟨by rw [HE.out]; rfl, hb4⟩
  have t2' : (M.length : Int) = 4 * (S.length : Int) := by omega
  by_cases t3 : 0 ≤ L
  case neg =>
    have t3' : L < 0 := by omega
    have HE := Lib.hid (HV.out.trans (ok_low t3))
    go_wp2_with fail
    go_ret
    exact ⟨by rw [HE.out]; rfl, hb4⟩
  have t3' : ¬ (L < 0) := by omega
  by_cases t4 : L ≤ 64
  case neg =>
    have t4' : L > 64 := by omega
    have HE := Lib.hid (HV.out.trans (ok_high t4))
    go_wp2_with fail
    go_ret
    exact ⟨by rw [HE.out]; rfl, hb4⟩
  have t4' : ¬ (L > 64) := by omega
  go_wp2_with fail
  have T2 := Lib.hid t2
  have hml : M.length ≤ 256 := by omega
  clear t2 t2' y0 y1 y2 t1'
  go_loopg [4] S.length (fun gk s4 wr => ∃ k : Nat, k ≤ S.length ∧ gk = S.length - k ∧ s4 = .int .i64 (k : Int) ∧ Arr wr w.heap.size 24 [.slice A S.length c, .slice A2 M.length c2, .int .i64 L] ∧ Below w.heap.size w wr ∧ Hid (∀ i (h : i < S.length), i < k → S[i] = 1 ∨ S[i] = -1))
  case atStart => exact ⟨0, Nat.zero_le _, rfl, rfl, q0, hb4, Lib.hid fun i h h1 => by omega⟩
  case round =>
    clear q0 hb4
    obtain ⟨k, hk, rfl, rfl, q0, hb4, HS⟩ := hrel
    have y0 := q0.cell 0
    by_cases hlt : k < S.length
    · have z1 : (k : Int) < (S.length : Int) := by omega
      obtain ⟨b, o, rfl, hbl, hcell⟩ := (hS0.below hb4).at_ hlt
      by_cases x1 : S[k] = 1
      · have HS2 : Hid (∀ i (h : i < S.length), i < k + 1 → S[i] = 1 ∨ S[i] = -1) := Lib.hid fun i h h1 => by
          rcases Nat.lt_or_ge i k with q | q
          · exact HS.out i h q
          · have : i = k := by omega
            subst this; exact Or.inl x1
        rw [x1] at hcell
        clear x1 HS
        go_wp2_with fail
        go_roundg (S.length - (k + 1))
        case measure => omega
        case rel => exact ⟨k + 1, by omega, rfl, by go_num, q0, hb4, HS2⟩
      · by_cases x2 : S[k] = -1
        · have HS2 : Hid (∀ i (h : i < S.length), i < k + 1 → S[i] = 1 ∨ S[i] = -1) := Lib.hid fun i h h1 => by
            rcases Nat.lt_or_ge i k with q | q
            · exact HS.out i h q
            · have : i = k := by omega
              subst this; exact Or.inr x2
          rw [x2] at hcell
          clear x1 x2 HS
          go_wp2_with fail
          go_roundg (S.length - (k + 1))
          case measure => omega
          case rel => exact ⟨k + 1, by omega, rfl, by go_num, q0, hb4, HS2⟩
        · have HE := Lib.hid (HV.out.trans (ok_sign hlt x1 x2))
          clear HS
          generalize S[k] = x at *
          have d1 : (x != 1) = true := by simp [x1]
          have d2 : (x != -1) = true := by simp [x2]
          go_wp2_with fail
          go_ret
          exact ⟨by rw [HE.out]; rfl, hb4⟩
    · have z1 : ¬ ((k : Int) < (S.length : Int)) := by omega
      have HS2 : Hid (∀ i (h : i < S.length), S[i] = 1 ∨ S[i] = -1) := Lib.hid fun i h => HS.out i h (by omega)
      clear HS y0
      go_wp2_with fail
      obtain ⟨wo, rfl⟩ : ∃ wo : World, wo = wr := ⟨_, rfl⟩
      go_loopg [5, 6] M.length (fun gk s5 s6 wi => ∃ h : Nat, h ≤ M.length ∧ gk = M.length - h ∧ s5 = .int .i64 (h : Int) ∧ Arr wi w.heap.size 24 [.slice A S.length c, .slice A2 M.length c2, .int .i64 L] ∧ Below w.heap.size w wi ∧ Hid (∀ i, i < h → mtB S M i = true))
      case atStart => exact ⟨0, Nat.zero_le _, rfl, rfl, q0, hb4, Lib.hid fun i h1 => by omega⟩
      case round =>
        clear q0 hb4 z1 hlt hk
        obtain ⟨h, hh, rfl, rfl, q0, hb4, HM⟩ := hrel
        have y0 := q0.cell 0
        have y1 := q0.cell 1
        by_cases hlt : h < M.length
        · have z1 : (h : Int) < 4 * (S.length : Int) := by have := T2.out; omega
          have z2 : (h : Int) < (M.length : Int) := by omega
          obtain ⟨b, o, rfl, hbl, hcell⟩ := (hM0.below hb4).at_ hlt
          have hgd := getD_lt hlt
          by_cases x1 : M[h] < 0
          · have HE := Lib.hid (HV.out.trans (ok_at (L := L) hlt (show mtB S M h = false by simp [mtB, hgd]; omega)))
            clear hgd
            generalize M[h] = x at *
            go_upto_region 13 with fail
            go_quiet (fail)
            go_wp2_with fail
            go_ret
            exact ⟨by rw [HE.out]; rfl, bdrewN hb4 _⟩
          obtain ⟨m, hm⟩ : ∃ m : Nat, M[h] = (m : Int) := ⟨M[h].toNat, by omega⟩
          have hmt : mt M h = m := by unfold mt; rw [hgd, hm]; omega
          rw [hm] at hcell
          have x1' : ¬ ((m : Int) < 0) := by omega
          by_cases x2 : m < M.length
          case neg =>
            have HE := Lib.hid (HV.out.trans (ok_at (L := L) hlt (show mtB S M h = false by have := T2.out; simp [mtB, hgd, hm]; omega)))
            have x2' : (m : Int) ≥ 4 * (S.length : Int) := by have := T2.out; omega
            clear hgd hm hmt x1 x2
            go_upto_region 13 with fail
            go_quiet (fail)
            go_wp2_with fail
            go_ret
            exact ⟨by rw [HE.out]; rfl, bdrewN hb4 _⟩
          have x2' : ¬ ((m : Int) ≥ 4 * (S.length : Int)) := by have := T2.out; omega
          have x2d : decide (4 * (S.length : Int) ≤ (m : Int)) = false := by have := T2.out; simp only [decide_eq_false_iff_not]; omega
          by_cases x3 : m = h
          · have HE := Lib.hid (HV.out.trans (ok_at (L := L) hlt (show mtB S M h = false by simp [mtB, hgd, hm, x3])))
            subst x3
            clear hgd hm hmt x1 x2
            go_upto_region 13 with fail
            go_quiet (fail)
            go_wp2_with fail
            go_ret
            exact ⟨by rw [HE.out]; rfl, bdrewN hb4 _⟩
          have x3' : ((m : Int) == (h : Int)) = false := by simp; omega
          have hgm := getD_lt x2
          obtain ⟨b', o', hA, hbl', hcell2⟩ := (hM0.below hb4).at_ x2
          injection hA with hA
          injection hA with hA1 hA2
          subst hA1 hA2
          have z3 : (m : Int) < (M.length : Int) := by omega
          by_cases x4 : M[m] = (h : Int)
          case neg =>
            have HE := Lib.hid (HV.out.trans (ok_at (L := L) hlt (show mtB S M h = false by simp [mtB, hgd, hm, hmt, hgm, x4])))
            clear hgd hm hmt hgm x1
            generalize M[m] = y at *
            have x4' : (y != (h : Int)) = true := by simp [x4]
            go_upto_region 13 with fail
            go_quiet (fail)
            go_wp2_with fail
            go_ret
            exact ⟨by rw [HE.out]; rfl, bdrewN hb4 _⟩
          rw [x4] at hcell2
          have HO1 := Lib.hid (fun n : Nat => out_ref (.slice A S.length c) S h (wr.drewN n) ((hS0.below hb4).drewN n) (by have := T2.out; omega) (by omega))
          have HO2 := Lib.hid (fun n : Nat => out_ref (.slice A S.length c) S m (wr.drewN n) ((hS0.below hb4).drewN n) (by have := T2.out; omega) (by omega))
          have HMB := Lib.hid (show mtB S M h = (outB S h != outB S m) by
            have t2 := T2.out
            unfold mtB
            rw [hgd, hm, hmt, hgm, x4]
            have e1 : decide ((0 : Int) ≤ (m : Int)) = true := by simp
            have e2 : decide ((m : Int) < ((4 * S.length : Nat) : Int)) = true := by simp only [decide_eq_true_eq]; omega
            have e3 : decide ((m : Int) ≠ (h : Int)) = true := by simp only [decide_eq_true_eq]; omega
            have e4 : decide ((h : Int) = (h : Int)) = true := by simp
            rw [e1, e2, e3, e4]; rfl)
          have HAT := Lib.hid (fun e => ok_at (L := L) hlt (HMB.out.trans e))
          clear hgd hm hmt hgm x1 x4
          generalize outB S h = b1 at *
          generalize outB S m = b2 at *
          cases b1 <;> cases b2
          · have HE := Lib.hid (HV.out.trans (HAT.out rfl))
            go_upto_region 13 with fail
            go_quiet ((first | (go_at_call_of 34 (Value.int .i64 (h : Int)); exact quietL (HO1.out _)) | (go_at_call_of 34 (Value.int .i64 (m : Int)); exact quietL (HO2.out _))))
            go_wp2_with fail
            go_ret
            exact ⟨by rw [HE.out]; rfl, bdrewN hb4 _⟩
          · have HM2 : Hid (∀ i, i < h + 1 → mtB S M i = true) := Lib.hid fun i h1 => by
              rcases Nat.lt_or_ge i h with q | q
              · exact HM.out i q
              · have : i = h := by omega
                subst this; exact HMB.out
            go_upto_region 13 with fail
            go_quiet ((first | (go_at_call_of 34 (Value.int .i64 (h : Int)); exact quietL (HO1.out _)) | (go_at_call_of 34 (Value.int .i64 (m : Int)); exact quietL (HO2.out _))))
            go_wp2_with fail
            go_roundg (M.length - (h + 1))
            case measure => omega
            case rel => exact ⟨h + 1, by omega, rfl, by go_num, q0.drewN _, bdrewN hb4 _, HM2⟩
          · have HM2 : Hid (∀ i, i < h + 1 → mtB S M i = true) := Lib.hid fun i h1 => by
              rcases Nat.lt_or_ge i h with q | q
              · exact HM.out i q
              · have : i = h := by omega
                subst this; exact HMB.out
            go_upto_region 13 with fail
            go_quiet ((first | (go_at_call_of 34 (Value.int .i64 (h : Int)); exact quietL (HO1.out _)) | (go_at_call_of 34 (Value.int .i64 (m : Int)); exact quietL (HO2.out _))))
            go_wp2_with fail
            go_roundg (M.length - (h + 1))
            case measure => omega
            case rel => exact ⟨h + 1, by omega, rfl, by go_num, q0.drewN _, bdrewN hb4 _, HM2⟩
          · have HE := Lib.hid (HV.out.trans (HAT.out rfl))
            go_upto_region 13 with fail
            go_quiet ((first | (go_at_call_of 34 (Value.int .i64 (h : Int)); exact quietL (HO1.out _)) | (go_at_call_of 34 (Value.int .i64 (m : Int)); exact quietL (HO2.out _))))
            go_wp2_with fail
            go_ret
            exact ⟨by rw [HE.out]; rfl, bdrewN hb4 _⟩
        · have z1 : ¬ ((h : Int) < 4 * (S.length : Int)) := by have := T2.out; omega
          have hK := ok_make t1 T2.out t3 t4 HS2.out (fun i hi => HM.out i (by omega))
          have HV2 := Lib.hid (show V = sphR M S.length by rw [HV.out, valB, hK]; rfl)
          have KK := Lib.hid (ok_of hK)
          clear hK HM HS2 y0 HV
          go_wp2_with (first
            | (go_at_call 35; refine (label_ref _ M S.length _ (hM0.below hb4) t1 KK.out.rg KK.out.pos).mono ?_; rintro e w5 ⟨rfl, a5, hb5⟩; have y5 := ((q0.below hb5 q0.lt).cell 1))
            | (go_at_call 36; refine (faces_ref _ M _ (((hM0.below hb4).below hb5)) hml KK.out.perm KK.out.lt KK.out.pos).mono ?_; rintro e w6 ⟨v, fs, rfl, hv6, hf6, hb6⟩))
          have hbw5 : Below w.heap.size w w5 := hb4.trans (hb5.mono hb4.size)
          have hW : Arr w6 wr.heap.size 3 (nc (labK M S.length S.length)) ∧ Vals w6 v fs ∧ Firsts w6 v.ownBlock fs (hdU (phi M) M.length M.length) ∧ Below w.heap.size w w6 :=
            ⟨a5.below hb6 a5.lt, hv6, hf6, hbw5.trans (hb6.mono hbw5.size)⟩
          have hll := labK_length M S.length S.length
          have HSB := Lib.hid (fun (c : Nat) (hc : c < S.length) (h : spB M (labK M S.length S.length) c = false) => sph_bad hc h)
          have HSG := Lib.hid (fun (h : ∀ c, c < S.length → spB M (labK M S.length S.length) c = true) => sph_good h)
          have HSP := Lib.hid (fun c : Nat => show spB M (labK M S.length S.length) c = (gn (labK M S.length S.length) c != c || fcN (labK M S.length S.length) c (hdU (phi M) M.length M.length) == crN (labK M S.length S.length) c (labK M S.length S.length).length + 2) from rfl)
          have HHD := Lib.hid (fun (x : Nat) (hx : x ∈ hdU (phi M) M.length M.length) => hdU_mem hx)
          have hhl : (hdU (phi M) M.length M.length).length ≤ 256 := Nat.le_trans (hdU_len _ _ _) hml
          obtain ⟨A7, c7, rfl, hc7, hx7⟩ := id hv6
          clear hv6 hf6 hb6 a5 hb5 hb4 y5 y1 q0 hbw5 hx7 z1
          generalize labK M S.length S.length = l at *
          generalize hdU (phi M) M.length M.length = hs at *
          generalize wr.heap.size = B at *
          have HW := Lib.hid hW
          clear hW
          go_loopg [9, 10, 11, 12, 13] S.length (fun gk s9 s10 s11 s12 s13 wi => ∃ k : Nat, k ≤ S.length ∧ gk = S.length - k ∧ s9 = .int .i64 (k : Int) ∧ Hid (Arr wi B 3 (nc l) ∧ Vals wi (Value.slice A7 fs.length c7) fs ∧ Firsts wi (Value.slice A7 fs.length c7).ownBlock fs hs ∧ Below w.heap.size w wi) ∧ Hid (∀ c, c < k → spB M l c = true))
          case atStart => exact ⟨0, Nat.zero_le _, rfl, rfl, HW, Lib.hid fun i h1 => by omega⟩
          case round =>
            clear HW hlt hh
            obtain ⟨c, hcl, rfl, rfl, HW, HC⟩ := hrel
            by_cases hlt : c < S.length
            · have z1 : (c : Int) < (S.length : Int) := by omega
              have yl := (HW.out.1.cell c).trans (nc_get (by omega))
              by_cases x1 : gn l c = c
              case neg =>
                have HC2 : Hid (∀ i, i < c + 1 → spB M l i = true) := Lib.hid fun i h1 => by
                  rcases Nat.lt_or_ge i c with q | q
                  · exact HC.out i q
                  · have : i = c := by omega
                    subst this; rw [HSP.out]; simp [x1]
                have x1' : (((gn l c : Nat) : Int) != (c : Int)) = true := by simp; omega
                have x1'' : ¬ (((gn l c : Nat) : Int) = (c : Int)) := by omega
                clear x1 HC
                generalize gn l c = x at *
                go_wp2_with fail
                go_roundg (S.length - (c + 1))
                case measure => omega
                case rel => exact ⟨c + 1, by omega, rfl, by go_num, HW, HC2⟩
              have HSQ := Lib.hid (show spB M l c = (fcN l c hs == crN l c l.length + 2) by rw [HSP.out, x1]; simp)
              rw [x1] at yl
              have X1 := Lib.hid x1
              clear x1 HSP
              go_wp2_with fail
              obtain ⟨wo, rfl⟩ : ∃ wo : World, wo = wr := ⟨_, rfl⟩
              go_loopg [10, 12] S.length (fun gk s10 s12 wi => ∃ b : Nat, b ≤ S.length ∧ gk = S.length - b ∧ s12 = .int .i64 (b : Int) ∧ s10 = .int .i64 (crN l c b : Nat) ∧ Hid (Arr wi B 3 (nc l) ∧ Vals wi (Value.slice A7 fs.length c7) fs ∧ Firsts wi (Value.slice A7 fs.length c7).ownBlock fs hs ∧ Below w.heap.size w wi))
              case atStart => exact ⟨0, Nat.zero_le _, rfl, rfl, rfl, HW⟩
              case round =>
                clear HW yl
                obtain ⟨b, hb, rfl, rfl, rfl, HW⟩ := hrel
                have hcb := crN_le l c b
                by_cases hblt : b < S.length
                · have z2 : (b : Int) < (S.length : Int) := by omega
                  have yb := (HW.out.1.cell b).trans (nc_get (by omega))
                  have HCS := Lib.hid (crN_succ l c b)
                  by_cases xb : gn l b = c
                  · rw [xb] at yb
                    have HCS2 := Lib.hid (show crN l c (b + 1) = crN l c b + 1 by rw [HCS.out, if_pos xb])
                    clear xb HCS
                    generalize crN l c b = z at *
                    go_wp2_with fail
                    go_roundg (S.length - (b + 1))
                    case measure => omega
                    case rel => exact ⟨b + 1, by omega, rfl, by go_num, by rw [HCS2.out]; go_num, HW⟩
                  · have xb' : (((gn l b : Nat) : Int) == (c : Int)) = false := by simp; omega
                    have xb'' : ¬ (((gn l b : Nat) : Int) = (c : Int)) := by omega
                    have HCS2 := Lib.hid (show crN l c (b + 1) = crN l c b by rw [HCS.out, if_neg xb]; rfl)
                    clear xb HCS
                    generalize gn l b = x at *
                    go_wp2_with fail
                    go_roundg (S.length - (b + 1))
                    case measure => omega
                    case rel => exact ⟨b + 1, by omega, rfl, by go_num, by rw [HCS2.out], HW⟩
                · have z2 : ¬ ((b : Int) < (S.length : Int)) := by omega
                  have hbe : b = l.length := by omega
                  have HSQ2 := Lib.hid (show spB M l c = (fcN l c hs == crN l c b + 2) by rw [HSQ.out, hbe])
                  clear hbe HSQ
                  generalize crN l c b = z at *
                  go_wp2_with fail
                  obtain ⟨wo, rfl⟩ : ∃ wo : World, wo = wr := ⟨_, rfl⟩
                  have hfl := HW.out.2.2.1.1
                  have HFL := Lib.hid hfl
                  have hfb : fs.length ≤ 256 := by omega
                  clear hfl
                  go_loopg [11, 13] fs.length (fun gk s11 s13 wi => ∃ i : Nat, i ≤ fs.length ∧ gk = fs.length - i ∧ s13 = .int .i64 (i : Int) ∧ s11 = .int .i64 (fcN l c (hs.take i) : Nat) ∧ Hid (Arr wi B 3 (nc l) ∧ Vals wi (Value.slice A7 fs.length c7) fs ∧ Firsts wi (Value.slice A7 fs.length c7).ownBlock fs hs ∧ Below w.heap.size w wi))
                  case atStart => exact ⟨0, Nat.zero_le _, rfl, rfl, rfl, HW⟩
                  case round =>
                    clear HW
                    obtain ⟨i, hi, rfl, rfl, rfl, HW⟩ := hrel
                    have hfi := fcN_le l c hs i
                    by_cases hil : i < fs.length
                    · have z3 : (i : Int) < (fs.length : Int) := by omega
                      have hih : i < hs.length := by have := HFL.out; omega
                      obtain ⟨b7, o7, rfl, hb7, yc⟩ := HW.out.2.1.at_ hil
                      obtain ⟨b8, l8, c8, hf8, hl8, yd, _⟩ := HW.out.2.2.1.2 i fs[i] hs[i] (List.getElem?_eq_getElem hil) (List.getElem?_eq_getElem hih)
                      rw [hf8] at yc
                      have hxl := HHD.out hs[i] (List.getElem_mem hih)
                      have HFS := Lib.hid (fcN_succ l c hs i hih)
                      clear hf8
                      generalize hs[i] = x at *
                      have z4 : (0 : Int) < (l8 : Int) := by omega
                      have e5 : (x : Int) / 4 = ((x / 4 : Nat) : Int) := by omega
                      have hx4 : x / 4 < S.length := by have := T2.out; omega
                      generalize x / 4 = y at *
                      have z5 : (y : Int) < (S.length : Int) := by omega
                      have yl := (HW.out.1.cell y).trans (nc_get (by omega))
                      generalize fcN l c (hs.take i) = q at *
                      by_cases xb : gn l y = c
                      · rw [xb] at yl
                        have HCS2 := Lib.hid (show fcN l c (hs.take (i + 1)) = q + 1 by rw [HFS.out, if_pos xb])
                        clear xb HFS
                        go_wp2_with fail
                        go_roundg (fs.length - (i + 1))
                        case measure => omega
                        case rel => exact ⟨i + 1, by omega, rfl, by go_num, by rw [HCS2.out]; go_num, HW⟩
                      · have xb' : (((gn l y : Nat) : Int) == (c : Int)) = false := by simp; omega
                        have xb'' : ¬ (((gn l y : Nat) : Int) = (c : Int)) := by omega
                        have HCS2 := Lib.hid (show fcN l c (hs.take (i + 1)) = q by rw [HFS.out, if_neg xb]; rfl)
                        clear xb HFS
                        generalize gn l y = x2 at *
                        go_wp2_with fail
                        go_roundg (fs.length - (i + 1))
                        case measure => omega
                        case rel => exact ⟨i + 1, by omega, rfl, by go_num, by rw [HCS2.out], HW⟩
                    · have z3 : ¬ ((i : Int) < (fs.length : Int)) := by omega
                      have hte : hs.take i = hs := List.take_of_length_le (by have := HFL.out; omega)
                      have HSQ3 := Lib.hid (show spB M l c = (fcN l c (hs.take i) == z + 2) by rw [HSQ2.out, hte])
                      clear hte HSQ2
                      generalize fcN l c (hs.take i) = q at *
                      by_cases xe : q = z + 2
                      · have HC2 : Hid (∀ i, i < c + 1 → spB M l i = true) := Lib.hid fun i h1 => by
                          rcases Nat.lt_or_ge i c with q | q
                          · exact HC.out i q
                          · have : i = c := by omega
                            subst this; rw [HSQ3.out]; simp [xe]
                        have xe' : (q : Int) = (z : Int) + 2 := by omega
                        clear xe HC
                        go_wp2_with fail
                        go_roundg (S.length - (c + 1))
                        case measure => omega
                        case rel => exact ⟨c + 1, by omega, rfl, by go_num, HW, HC2⟩
                      · have HE := Lib.hid (HV2.out.trans (HSB.out c hlt (by rw [HSQ3.out]; simp [xe])))
                        have xe' : ¬ ((q : Int) = (z : Int) + 2) := by omega
                        have xe'' : ((q : Int) != (z : Int) + 2) = true := by simp; omega
                        clear xe
                        go_wp2_with fail
                        go_ret
                        exact ⟨by rw [HE.out]; rfl, HW.out.2.2.2⟩
            · have z1 : ¬ ((c : Int) < (S.length : Int)) := by omega
              have HE := Lib.hid (HV2.out.trans (HSG.out fun i hi => HC.out i (by omega)))
              go_wp2_with fail
              go_ret
              exact ⟨by rw [HE.out]; rfl, HW.out.2.2.2⟩
end Go.Proofs.Ytcjaloddgilnpaa
