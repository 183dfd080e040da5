/- laurent.combine. -/
import Derived.Test.YtlbihllmpbhhcaaDoorZCbw
import Derived.StillTailTactics
import Derived.IntWalk
import Derived.Deep.LoopGhost
import Derived.Deep.RegionHeld3
import Derived.Deep.DeepCutAuto
import Derived.Deep.Cut
import Derived.Deep.QuietTactic
import Derived.BigQuiet
namespace Go.Proofs.YtlbihllmpbhhcaaDoor
open Go.RowKit
set_option linter.unusedVariables false

theorem run_make_terms (n : Nat) (hn : n ≤ 10000000) (W : World) : ∃ cs, (Instr.makeSlice 25 (.int .i64 0) (.int .i64 (n : Int))).run Tryd.prog W = .ok (.slice (some ⟨W.heap.size, 0, none⟩) 0 n) (W.alloc (.cells cs 77)) ∧ cs.size = n * 2 := by
  obtain ⟨i, hi, hz, hs, hby⟩ := info_parts info_term
  have h := run_make (P := Tryd.prog) W 25 77 i _ Tryd.underlying25 hi hz .i64 .i64 0 (n : Int) (Int.le_refl _) (by omega) (by rw [hby]; omega) (by omega)
  refine ⟨_, h, ?_⟩
  rw [size_madeCells, hs]; omega
theorem Arr.drewW {w : World} {k : Nat} {t : TypeId} {cs : List Value} (h : Arr w k t cs) : Arr w.drew k t cs := h
/-- what combine returns -/
def CombR (f : Int → Int → Int) (p q : Pol) (w : World) (e : Ending) (w' : World) : Prop := ∃ v r, e = .returned v ∧ PolyV w' v r ∧ CombP f p q r ∧ Below w.heap.size w w'
/-- the state of combine's loop -/
structure CSt (w : World) (rb fb : Nat) (fw : FuncId) (A A2 : Option Addr) (c c2 : Nat) (lp lq : List (Int × Int)) (s : Value) (R : List (Int × Int)) (W : World) : Prop where
  own : OwnT (w.heap.size + 4) W s R
  rr : Arr W rb 27 [.bool false, s]
  ff : Arr W fb 4 [.bool (fitsB R)]
  pp : Arr W w.heap.size 27 [.bool false, .slice A lp.length c]
  qq : Arr W (w.heap.size + 1) 27 [.bool false, .slice A2 lq.length c2]
  ww : Arr W (w.heap.size + 2) 96 [.func (.func fw) #[] #[]]
  res : Arr W (w.heap.size + 3) 27 [.bool false, .slice none 0 0]
  bel : Below w.heap.size w W
  hrb : w.heap.size + 4 ≤ rb
  hfb : w.heap.size + 4 ≤ fb
section
variable {w W : World} {rb fb c c2 : Nat} {fw : FuncId} {A A2 : Option Addr} {lp lq R : List (Int × Int)} {s : Value} {f : Int → Int → Int}
theorem CSt.drewN (h : CSt w rb fb fw A A2 c c2 lp lq s R W) (n : Nat) : CSt w rb fb fw A A2 c c2 lp lq s R (W.drewN n) := ⟨h.own, h.rr, h.ff, h.pp, h.qq, h.ww, h.res, bdrewN h.bel n, h.hrb, h.hfb⟩
theorem CSt.drew (h : CSt w rb fb fw A A2 c c2 lp lq s R W) : CSt w rb fb fw A A2 c c2 lp lq s R W.drew := ⟨h.own, h.rr, h.ff, h.pp, h.qq, h.ww, h.res, h.bel.drew, h.hrb, h.hfb⟩
theorem CSt.put (h : CSt w rb fb fw A A2 c c2 lp lq s R W) (hw : CloW fw f) (x a b : Int) (ha1 : -1125899906842624 ≤ a) (ha2 : a ≤ 1125899906842624) (hb1 : -1125899906842624 ≤ b) (hb2 : b ≤ 1125899906842624) (hR : R.length ≤ 10000000) :
    Calls Tryd.prog 70 #[.int .i64 x, .int .i64 a, .int .i64 b, .pointer (some ⟨w.heap.size + 2, 0, none⟩), .pointer (some ⟨fb, 0, none⟩), .pointer (some ⟨rb, 0, none⟩)] W fun e w' => e = .returned (.tuple #[]) ∧ ∃ s', CSt w rb fb fw A A2 c c2 lp lq s' (putR R x (f a b)) w' := by
  have hs := h.res.lt
  refine (put_any fw f hw x a b (w.heap.size + 2) fb rb (w.heap.size + 4) (fitsB R) s R W ha1 ha2 hb1 hb2 h.ww h.ff h.rr h.own hR h.hfb h.hrb (by omega)).mono ?_
  rintro e w' ⟨rfl, s', h1, h2, h3, h4⟩
  have hb := h.hrb
  have hf := h.hfb
  have ap : ∀ k, k < w.heap.size + 4 → k ∉ [fb, rb] ∧ s.ownBlock ≠ some k := fun k hk => ⟨by simp; omega, fun e => by have := (h.own.lt k e).1; omega⟩
  refine ⟨rfl, s', h1, h3, ?_, h4.arr h.pp (ap _ (by omega)).1 (ap _ (by omega)).2, h4.arr h.qq (ap _ (by omega)).1 (ap _ (by omega)).2, h4.arr h.ww (ap _ (by omega)).1 (ap _ (by omega)).2, h4.arr h.res (ap _ (by omega)).1 (ap _ (by omega)).2, h.bel.trans (h4.below.mono (by omega)), hb, hf⟩
  rw [fitsB_put]; exact h2
end
/-- big in, big out -/
theorem comb_big {f : Int → Int → Int} {p q : Pol} (h : p = none ∨ q = none) : CombP f p q none := by
  rcases h with rfl | rfl
  · cases q <;> rfl
  · cases p <;> rfl
set_option maxHeartbeats 8000000 in
set_option maxRecDepth 100000 in
theorem combine_any (fw : FuncId) (f : Int → Int → Int) (hw : CloW fw f) (vp vq : Value) (p q : Pol) (w : World) (hp : PolyV w vp p) (hq : PolyV w vq q) (okp : okP p) (okq : okP q) :
    Calls Tryd.prog 46 #[vp, vq, .func (.func fw) #[] #[]] w (CombR f p q w) := by
  have HPV := Lib.hid (fun W (hb : Below w.heap.size w W) => hp.below hb)
  have HQV := Lib.hid (fun W (hb : Below w.heap.size w W) => hq.below hb)
  obtain ⟨A, c, rfl, hp1⟩ := hp
  obtain ⟨A2, c2, rfl, hq1⟩ := hq
  have HPT := Lib.hid (fun W (hb : Below w.heap.size w W) => hp1.below hb)
  have HQT := Lib.hid (fun W (hb : Below w.heap.size w W) => hq1.below hb)
  clear hp1 hq1 HPV HQV
  have hW : ∀ W, W = ((((w.alloc (.cells #[.bool p.isNone, .slice A (p.getD []).length c] 27)).alloc (.cells #[.bool q.isNone, .slice A2 (q.getD []).length c2] 27)).alloc (.cells #[.func (.func fw) #[] #[]] 96)).alloc (.cells #[.bool false, .slice none 0 0] 27)) → Arr W w.heap.size 27 [.bool p.isNone, .slice A (p.getD []).length c] ∧ Arr W (w.heap.size + 1) 27 [.bool q.isNone, .slice A2 (q.getD []).length c2] ∧ Arr W (w.heap.size + 2) 96 [.func (.func fw) #[] #[]] ∧ Arr W (w.heap.size + 3) 27 [.bool false, .slice none 0 0] ∧ Below w.heap.size w W ∧ W.heap.size = w.heap.size + 4 := by
    intro W hW
    subst hW
    exact ⟨(((Arr.new _ _ [_, _]).alloc _).alloc _).alloc _, ((Arr.newAt (w.alloc _) _ [_, _] _ (by simp)).alloc _).alloc _, (Arr.newAt ((w.alloc _).alloc _) _ [_] _ (by simp)).alloc _, Arr.newAt (((w.alloc _).alloc _).alloc _) _ [_, _] _ (by simp), ((((Below.refl _ _).alloc (Nat.le_refl _) _).alloc (by simp) _).alloc (by simp <;> omega) _).alloc (by simp <;> omega) _, by simp⟩
  go_enter Tryd.func46, Tryd.ntmps46
  go_upto_region 1 with fail
  generalize ((((w.alloc (.cells #[.bool p.isNone, .slice A (p.getD []).length c] 27)).alloc (.cells #[.bool q.isNone, .slice A2 (q.getD []).length c2] 27)).alloc (.cells #[.func (.func fw) #[] #[]] 96)).alloc (.cells #[.bool false, .slice none 0 0] 27)) = w3 at hW ⊢
  obtain ⟨qp, qq, qw, qr, hb3, hs3⟩ := hW w3 rfl
  clear hW
  have y0 := qp.cell 0
  have y1 := qp.cell 1
  have y2 := qq.cell 0
  have y3 := qq.cell 1
  cases p with
  | none =>
    have x0 := qr.cell 0
    have x1 := qr.cell 1
    have f0 := qr.frozen 0
    have f1 := qr.frozen 1
    have hres := Lib.hid ((qr.set 0 (.bool true)).set 1 (.slice none 0 0))
    go_wp2_with fail
    refine bodyPost_ret (v := .agg #[.bool true, .slice none 0 0]) (results_c Tryd.results46 _ _ (w.heap.size + 3) 27 _ _ rfl hres.out Tryd.underlying27 rfl info_poly) rfl ?_
    exact ⟨_, none, rfl, PolyV.big _, comb_big (.inl rfl), (hb3.setCell (p := ⟨w.heap.size + 3, 0, none⟩) (by simp) _).setCell (p := ⟨w.heap.size + 3, 1, none⟩) (by simp) _⟩
  | some lp =>
    cases q with
    | none =>
      have x0 := qr.cell 0
      have x1 := qr.cell 1
      have f0 := qr.frozen 0
      have f1 := qr.frozen 1
      have hres := Lib.hid ((qr.set 0 (.bool true)).set 1 (.slice none 0 0))
      go_wp2_with fail
      refine bodyPost_ret (v := .agg #[.bool true, .slice none 0 0]) (results_c Tryd.results46 _ _ (w.heap.size + 3) 27 _ _ rfl hres.out Tryd.underlying27 rfl info_poly) rfl ?_
      exact ⟨_, none, rfl, PolyV.big _, comb_big (.inr rfl), (hb3.setCell (p := ⟨w.heap.size + 3, 0, none⟩) (by simp) _).setCell (p := ⟨w.heap.size + 3, 1, none⟩) (by simp) _⟩
    | some lq =>
      obtain ⟨kp, limp⟩ := okp
      obtain ⟨kq, limq⟩ := okq
      have lp1 := limp.len kp
      have lq1 := limq.len kq
      have HEND := Lib.hid (fun R (h : Mrg f lp lq lp.length lq.length R) => comb_end hw.f0 h limp limq)
      have HCP := Lib.hid limp.co
      have HCQ := Lib.hid limq.co
      have HEP := Lib.hid limp.ex
      have HEQ := Lib.hid limq.ex
      have KP := Lib.hid kp.srt
      have KQ := Lib.hid kq.srt
      have HF0 := Lib.hid hw.f0
      have HST := Lib.hid (Mrg.start (p := lp) (q := lq) hw.f0)
      have HW := Lib.hid hw
      clear kp kq limp limq hw
      replace qp : Arr w3 w.heap.size 27 [.bool false, .slice A lp.length c] := qp
      replace qq : Arr w3 (w.heap.size + 1) 27 [.bool false, .slice A2 lq.length c2] := qq
      replace HPT : Hid (∀ W, Below w.heap.size w W → Tms W (.slice A lp.length c) lp) := HPT
      replace HQT : Hid (∀ W, Below w.heap.size w W → Tms W (.slice A2 lq.length c2) lq) := HQT
      clear y0 y1 y2 y3
      have y0 := qp.cell 0
      have y1 := qp.cell 1
      have y2 := qq.cell 0
      have y3 := qq.cell 1
      obtain ⟨N, hN⟩ : ∃ N, N = lp.length + lq.length := ⟨_, rfl⟩
      have e1 : (lp.length : Int) + (lq.length : Int) = (N : Int) := by omega
      obtain ⟨cs, hmk, hcs⟩ := run_make_terms N (by omega) w3
      have HN := Lib.hid hN
      have HCS := Lib.hid hcs
      have HS3 := Lib.hid hs3
      clear hN hcs hs3
      go_upto_region 6 with fail
      have hX : ∀ W, W = ((w3.alloc (.cells cs 77)).alloc (.cells #[.bool false, .slice (some ⟨w3.heap.size, 0, none⟩) 0 N] 27)).alloc (.cells #[.bool true] 4) → Arr W w.heap.size 27 [.bool false, .slice A lp.length c] ∧ Arr W (w.heap.size + 1) 27 [.bool false, .slice A2 lq.length c2] ∧ Arr W (w.heap.size + 2) 96 [.func (.func fw) #[] #[]] ∧ Arr W (w.heap.size + 3) 27 [.bool false, .slice none 0 0] ∧ OwnT (w.heap.size + 4) W (.slice (some ⟨w3.heap.size, 0, none⟩) 0 N) [] ∧ Arr W (w3.heap.size + 1) 27 [.bool false, .slice (some ⟨w3.heap.size, 0, none⟩) 0 N] ∧ Arr W (w3.heap.size + 2) 4 [.bool true] ∧ Below w.heap.size w W ∧ W.heap.size = w3.heap.size + 3 := by
        intro W hW
        subst hW
        refine ⟨((qp.alloc _).alloc _).alloc _, ((qq.alloc _).alloc _).alloc _, ((qw.alloc _).alloc _).alloc _, ((qr.alloc _).alloc _).alloc _, ?_, (Arr.newAt (w3.alloc _) _ [_, _] _ (by simp)).alloc _, Arr.newAt ((w3.alloc _).alloc _) _ [_] _ (by simp), ((hb3.alloc (Nat.le_of_lt (Nat.lt_of_lt_of_le (Nat.lt_succ_self _) (by rw [HS3.out]; omega))) _).alloc (by simp; rw [HS3.out]; omega) _).alloc (by simp; rw [HS3.out]; omega) _, by simp⟩
        have h1 : OwnT (w.heap.size + 4) (w3.alloc (.cells cs 77)) (.slice (some ⟨w3.heap.size, 0, none⟩) 0 N) [] := ⟨rfl, .inr ⟨w3.heap.size, N, cs, rfl, by rw [HS3.out]; omega, heap_alloc_new w3 _, Nat.zero_le _, by have := HN.out; unfold maxLen; omega, HCS.out, rfl⟩⟩
        exact (h1.below ((Below.refl _ _).alloc (Nat.le_refl _) _)).below ((Below.refl _ _).alloc (Nat.le_refl _) _)
      generalize (((w3.alloc (.cells cs 77)).alloc (.cells #[.bool false, .slice (some ⟨w3.heap.size, 0, none⟩) 0 N] 27)).alloc (.cells #[.bool true] 4)) = w6 at hX ⊢
      obtain ⟨p6, q6, u6, r6, s6, rb6, fb6, hb6, hs6⟩ := hX w6 rfl
      clear hX qp qq qw qr hb3 y0 y1 y2 y3 hmk HCS HN e1
      have hs3 := HS3.out
      have HS6 := Lib.hid hs6
      clear hs6
      generalize (Value.slice (some ⟨w3.heap.size, 0, none⟩) 0 N) = s0 at *
      have hst0 : CSt w (w3.heap.size + 1) (w3.heap.size + 2) fw A A2 c c2 lp lq s0 [] w6 := ⟨s6, rb6, fb6, p6, q6, u6, r6, hb6, by omega, by omega⟩
      go_wp2_with fail
      clear s6 rb6 fb6 p6 q6 u6 r6 hb6 HS6 hs3 HS3
      go_loopg [10, 11] (lp.length + lq.length) (fun gk s10 s11 wr => ∃ (i j : Nat) (R : List (Int × Int)) (s : Value), i ≤ lp.length ∧ j ≤ lq.length ∧ gk = (lp.length - i) + (lq.length - j) ∧ s10 = .int .i64 (i : Int) ∧ s11 = .int .i64 (j : Int) ∧ Hid (Mrg f lp lq i j R) ∧ CSt w (w3.heap.size + 1) (w3.heap.size + 2) fw A A2 c c2 lp lq s R wr)
      case atStart => exact ⟨0, 0, [], s0, Nat.zero_le _, Nat.zero_le _, by omega, rfl, rfl, HST, hst0⟩
      case round =>
        clear HST hst0
        obtain ⟨i, j, R, s, hi, hj, rfl, rfl, rfl, HM, hst⟩ := hrel
        have hR : R.length ≤ 10000000 := by have := HM.out.len; omega
        have HBL := Lib.hid hst.bel
        have y0 := hst.pp.cell 1
        have y1 := hst.qq.cell 1
        by_cases hlp : i < lp.length
        · have z1 : (i : Int) < (lp.length : Int) := by omega
          obtain ⟨b, o, hA, _, _, _⟩ := (HPT.out wr hst.bel).at_ hlp
          subst hA
          have CP0 := Lib.hid (fun W (hb : Below w.heap.size w W) => (HPT.out W hb).cells hlp)
          have hpe := HEP.out _ (List.getElem_mem hlp)
          have hpc := HCP.out _ (List.getElem_mem hlp)
          have c0 := (CP0.out wr hst.bel).1
          have c1 := (CP0.out wr hst.bel).2
          have zi : ((i : Int) == (lp.length : Int)) = false := by simp; omega
          by_cases hlq : j < lq.length
          · have z2 : (j : Int) < (lq.length : Int) := by omega
            obtain ⟨b2, o2, hA2, _, _, _⟩ := (HQT.out wr hst.bel).at_ hlq
            subst hA2
            have CQ0 := Lib.hid (fun W (hb : Below w.heap.size w W) => (HQT.out W hb).cells hlq)
            have hqe := HEQ.out _ (List.getElem_mem hlq)
            have hqc := HCQ.out _ (List.getElem_mem hlq)
            have d0 := (CQ0.out wr hst.bel).1
            have d1 := (CQ0.out wr hst.bel).2
            have zj : ((j : Int) == (lq.length : Int)) = false := by simp; omega
            rcases Int.lt_trichotomy lp[i].1 lq[j].1 with hlt | hlt | hlt
            · have MR := Lib.hid (HM.out.left HF0.out KP.out KQ.out hlp (Mrg.lt_right KQ.out hlq hlt))
              generalize lp[i].1 = pe at *
              generalize lp[i].2 = pc at *
              generalize lq[j].1 = qe at *
              generalize lq[j].2 = qc at *
              clear HM HEND HPT HQT KP KQ HCP HCQ HEP HEQ HF0
              go_wp2_with fail
              go_quiet (fail)
              clear y0 y1 c0 c1 d0 d1
              replace hst := hst.drewN nq
              generalize wr.drewN nq = wr0 at hst ⊢
              clear nq
              have y0 := hst.pp.cell 1
              have y1 := hst.qq.cell 1
              have c0 := (CP0.out wr0 hst.bel).1
              have c1 := (CP0.out wr0 hst.bel).2
              have d0 := (CQ0.out wr0 hst.bel).1
              have d1 := (CQ0.out wr0 hst.bel).2
              go_wp2_with fail
              go_still_tail 13, (by kernel_rfl)
              change wpList _ _ _ _ _ wr0.drew
              clear y0 y1 c0 c1 d0 d1
              replace hst := hst.drew
              generalize wr0.drew = wz at hst ⊢
              have y0 := hst.pp.cell 1
              have y1 := hst.qq.cell 1
              have c0 := (CP0.out wz hst.bel).1
              have c1 := (CP0.out wz hst.bel).2
              have d0 := (CQ0.out wz hst.bel).1
              have d1 := (CQ0.out wz hst.bel).2
              go_wp2_with fail
              have HC := Lib.hid (hst.put HW.out pe pc 0 (by omega) (by omega) (by omega) (by omega) hR)
              refine Calls.mono HC.out ?_
              rintro e w5 ⟨rfl, s', hst5⟩
              clear y0 y1 c0 c1 d0 d1 hst
              go_wp2_with fail
              go_roundg ((lp.length - (i + 1)) + (lq.length - (j)))
              case measure => omega
              case rel => exact ⟨i + 1, j, _, s', by omega, by omega, rfl, by first | rfl | go_num, by first | rfl | go_num, MR, hst5⟩
            · have MR := Lib.hid (HM.out.both HF0.out KP.out KQ.out hlp hlq hlt)
              have n1 : ¬ (lp[i].1 < lq[j].1) := by omega
              have n2 : ¬ (lq[j].1 < lp[i].1) := by omega
              clear hlt
              generalize lp[i].1 = pe at *
              generalize lp[i].2 = pc at *
              generalize lq[j].1 = qe at *
              generalize lq[j].2 = qc at *
              clear HM HEND HPT HQT KP KQ HCP HCQ HEP HEQ HF0
              go_wp2_with fail
              go_quiet (fail)
              clear y0 y1 c0 c1 d0 d1
              replace hst := hst.drewN nq
              generalize wr.drewN nq = wr0 at hst ⊢
              clear nq
              have y0 := hst.pp.cell 1
              have y1 := hst.qq.cell 1
              have c0 := (CP0.out wr0 hst.bel).1
              have c1 := (CP0.out wr0 hst.bel).2
              have d0 := (CQ0.out wr0 hst.bel).1
              have d1 := (CQ0.out wr0 hst.bel).2
              go_wp2_with fail
              go_quiet (fail)
              clear y0 y1 c0 c1 d0 d1
              replace hst := hst.drewN nq
              generalize wr0.drewN nq = wr1 at hst ⊢
              clear nq
              have y0 := hst.pp.cell 1
              have y1 := hst.qq.cell 1
              have c0 := (CP0.out wr1 hst.bel).1
              have c1 := (CP0.out wr1 hst.bel).2
              have d0 := (CQ0.out wr1 hst.bel).1
              have d1 := (CQ0.out wr1 hst.bel).2
              go_wp2_with fail
              go_still_tail 19, (by kernel_rfl)
              change wpList _ _ _ _ _ wr1.drew
              clear y0 y1 c0 c1 d0 d1
              replace hst := hst.drew
              generalize wr1.drew = wz at hst ⊢
              have y0 := hst.pp.cell 1
              have y1 := hst.qq.cell 1
              have c0 := (CP0.out wz hst.bel).1
              have c1 := (CP0.out wz hst.bel).2
              have d0 := (CQ0.out wz hst.bel).1
              have d1 := (CQ0.out wz hst.bel).2
              go_wp2_with fail
              have HC := Lib.hid (hst.put HW.out pe pc qc (by omega) (by omega) (by omega) (by omega) hR)
              refine Calls.mono HC.out ?_
              rintro e w5 ⟨rfl, s', hst5⟩
              clear y0 y1 c0 c1 d0 d1 hst
              go_wp2_with fail
              go_roundg ((lp.length - (i + 1)) + (lq.length - (j + 1)))
              case measure => omega
              case rel => exact ⟨i + 1, j + 1, _, s', by omega, by omega, rfl, by first | rfl | go_num, by first | rfl | go_num, MR, hst5⟩
            · have MR := Lib.hid (HM.out.right HF0.out KP.out KQ.out hlq (Mrg.lt_right KP.out hlp hlt))
              have n1 : ¬ (lp[i].1 < lq[j].1) := by omega
              generalize lp[i].1 = pe at *
              generalize lp[i].2 = pc at *
              generalize lq[j].1 = qe at *
              generalize lq[j].2 = qc at *
              clear HM HEND HPT HQT KP KQ HCP HCQ HEP HEQ HF0
              go_wp2_with fail
              go_quiet (fail)
              clear y0 y1 c0 c1 d0 d1
              replace hst := hst.drewN nq
              generalize wr.drewN nq = wr0 at hst ⊢
              clear nq
              have y0 := hst.pp.cell 1
              have y1 := hst.qq.cell 1
              have c0 := (CP0.out wr0 hst.bel).1
              have c1 := (CP0.out wr0 hst.bel).2
              have d0 := (CQ0.out wr0 hst.bel).1
              have d1 := (CQ0.out wr0 hst.bel).2
              go_wp2_with fail
              go_quiet (fail)
              clear y0 y1 c0 c1 d0 d1
              replace hst := hst.drewN nq
              generalize wr0.drewN nq = wr1 at hst ⊢
              clear nq
              have y0 := hst.pp.cell 1
              have y1 := hst.qq.cell 1
              have c0 := (CP0.out wr1 hst.bel).1
              have c1 := (CP0.out wr1 hst.bel).2
              have d0 := (CQ0.out wr1 hst.bel).1
              have d1 := (CQ0.out wr1 hst.bel).2
              go_wp2_with fail
              go_still_tail 13, (by kernel_rfl)
              change wpList _ _ _ _ _ wr1.drew
              clear y0 y1 c0 c1 d0 d1
              replace hst := hst.drew
              generalize wr1.drew = wz at hst ⊢
              have y0 := hst.pp.cell 1
              have y1 := hst.qq.cell 1
              have c0 := (CP0.out wz hst.bel).1
              have c1 := (CP0.out wz hst.bel).2
              have d0 := (CQ0.out wz hst.bel).1
              have d1 := (CQ0.out wz hst.bel).2
              go_wp2_with fail
              have HC := Lib.hid (hst.put HW.out qe 0 qc (by omega) (by omega) (by omega) (by omega) hR)
              refine Calls.mono HC.out ?_
              rintro e w5 ⟨rfl, s', hst5⟩
              clear y0 y1 c0 c1 d0 d1 hst
              go_wp2_with fail
              go_roundg ((lp.length - (i)) + (lq.length - (j + 1)))
              case measure => omega
              case rel => exact ⟨i, j + 1, _, s', by omega, by omega, rfl, by first | rfl | go_num, by first | rfl | go_num, MR, hst5⟩
          · obtain rfl : j = lq.length := by omega
            clear hlq hj
            have MR := Lib.hid (HM.out.left HF0.out KP.out KQ.out hlp (fun s hs => by rw [List.drop_length] at hs; cases hs))
            generalize lp[i].1 = pe at *
            generalize lp[i].2 = pc at *
            clear HM HEND HPT HQT KP KQ HCP HCQ HEP HEQ HF0
            go_wp2_with fail
            go_quiet (fail)
            clear y0 y1 c0 c1
            replace hst := hst.drewN nq
            generalize wr.drewN nq = wr0 at hst ⊢
            clear nq
            have y0 := hst.pp.cell 1
            have y1 := hst.qq.cell 1
            have c0 := (CP0.out wr0 hst.bel).1
            have c1 := (CP0.out wr0 hst.bel).2
            go_wp2_with fail
            go_still_tail 13, (by kernel_rfl)
            change wpList _ _ _ _ _ wr0.drew
            clear y0 y1 c0 c1
            replace hst := hst.drew
            generalize wr0.drew = wz at hst ⊢
            have y0 := hst.pp.cell 1
            have y1 := hst.qq.cell 1
            have c0 := (CP0.out wz hst.bel).1
            have c1 := (CP0.out wz hst.bel).2
            go_wp2_with fail
            have HC := Lib.hid (hst.put HW.out pe pc 0 (by omega) (by omega) (by omega) (by omega) hR)
            refine Calls.mono HC.out ?_
            rintro e w5 ⟨rfl, s', hst5⟩
            clear y0 y1 c0 c1 hst
            go_wp2_with fail
            go_roundg ((lp.length - (i + 1)) + (lq.length - (lq.length)))
            case measure => omega
            case rel => exact ⟨i + 1, lq.length, _, s', by omega, by omega, rfl, by first | rfl | go_num, by first | rfl | go_num, MR, hst5⟩
        · obtain rfl : i = lp.length := by omega
          clear hlp hi
          have z1 : ¬ ((lp.length : Int) < (lp.length : Int)) := by omega
          by_cases hlq : j < lq.length
          · have z2 : (j : Int) < (lq.length : Int) := by omega
            obtain ⟨b2, o2, hA2, _, _, _⟩ := (HQT.out wr hst.bel).at_ hlq
            subst hA2
            have CQ0 := Lib.hid (fun W (hb : Below w.heap.size w W) => (HQT.out W hb).cells hlq)
            have hqe := HEQ.out _ (List.getElem_mem hlq)
            have hqc := HCQ.out _ (List.getElem_mem hlq)
            have d0 := (CQ0.out wr hst.bel).1
            have d1 := (CQ0.out wr hst.bel).2
            have zj : ((j : Int) == (lq.length : Int)) = false := by simp; omega
            have MR := Lib.hid (HM.out.right HF0.out KP.out KQ.out hlq (fun s hs => by rw [List.drop_length] at hs; cases hs))
            generalize lq[j].1 = qe at *
            generalize lq[j].2 = qc at *
            clear HM HEND HPT HQT KP KQ HCP HCQ HEP HEQ HF0
            go_wp2_with fail
            go_quiet (fail)
            clear y0 y1 d0 d1
            replace hst := hst.drewN nq
            generalize wr.drewN nq = wr0 at hst ⊢
            clear nq
            have y0 := hst.pp.cell 1
            have y1 := hst.qq.cell 1
            have d0 := (CQ0.out wr0 hst.bel).1
            have d1 := (CQ0.out wr0 hst.bel).2
            go_wp2_with fail
            go_quiet (fail)
            clear y0 y1 d0 d1
            replace hst := hst.drewN nq
            generalize wr0.drewN nq = wr1 at hst ⊢
            clear nq
            have y0 := hst.pp.cell 1
            have y1 := hst.qq.cell 1
            have d0 := (CQ0.out wr1 hst.bel).1
            have d1 := (CQ0.out wr1 hst.bel).2
            go_wp2_with fail
            go_still_tail 13, (by kernel_rfl)
            change wpList _ _ _ _ _ wr1.drew
            clear y0 y1 d0 d1
            replace hst := hst.drew
            generalize wr1.drew = wz at hst ⊢
            have y0 := hst.pp.cell 1
            have y1 := hst.qq.cell 1
            have d0 := (CQ0.out wz hst.bel).1
            have d1 := (CQ0.out wz hst.bel).2
            go_wp2_with fail
            have HC := Lib.hid (hst.put HW.out qe 0 qc (by omega) (by omega) (by omega) (by omega) hR)
            refine Calls.mono HC.out ?_
            rintro e w5 ⟨rfl, s', hst5⟩
            clear y0 y1 d0 d1 hst
            go_wp2_with fail
            go_roundg ((lp.length - (lp.length)) + (lq.length - (j + 1)))
            case measure => omega
            case rel => exact ⟨lp.length, j + 1, _, s', by omega, by omega, rfl, by first | rfl | go_num, by first | rfl | go_num, MR, hst5⟩
          · obtain rfl : j = lq.length := by omega
            have HE := Lib.hid (HEND.out R HM.out)
            clear HM HEND HPT HQT KP KQ HCP HCQ HEP HEQ HF0 HW hlq hj
            have zz : ¬ ((lq.length : Int) < (lq.length : Int)) := by omega
            have b0 := hst.ff.cell 0
            have x0 := hst.res.cell 0
            have x1 := hst.res.cell 1
            have f0 := hst.res.frozen 0
            have f1 := hst.res.frozen 1
            cases hfb : fitsB R with
            | false =>
              rw [hfb] at HE b0
              clear hfb
              have hres := Lib.hid ((hst.res.set 0 (.bool true)).set 1 (.slice none 0 0))
              have hbel := hst.bel
              clear hst
              go_wp2_with fail
              refine bodyPost_ret (v := .agg #[.bool true, .slice none 0 0]) (results_c Tryd.results46 _ _ (w.heap.size + 3) 27 _ _ rfl hres.out Tryd.underlying27 rfl info_poly) rfl ?_
              exact ⟨_, none, rfl, PolyV.big _, HE.out, (hbel.setCell (p := ⟨w.heap.size + 3, 0, none⟩) (by simp) _).setCell (p := ⟨w.heap.size + 3, 1, none⟩) (by simp) _⟩
            | true =>
              rw [hfb] at HE b0
              clear hfb
              have ho := hst.own
              have a1 := ho.apart hst.res (by decide)
              have PV := Lib.hid (fun u1 u2 => PolyV.own ((ho.far (p := ⟨w.heap.size + 3, 0, none⟩) a1 u1).far (p := ⟨w.heap.size + 3, 1, none⟩) a1 u2))
              have r0 := hst.rr.cell 0
              have r1 := hst.rr.cell 1
              have hbel := hst.bel
              have hrs := hst.res
              obtain ⟨B5, n5, c5, rfl⟩ := ho.form3
              have hres := Lib.hid ((hrs.set 0 (.bool false)).set 1 (.slice B5 n5 c5))
              clear hst ho a1 hrs
              go_wp2_with fail
              refine bodyPost_ret (v := .agg #[.bool false, .slice B5 n5 c5]) (results_c Tryd.results46 _ _ (w.heap.size + 3) 27 _ _ rfl hres.out Tryd.underlying27 rfl info_poly) rfl ?_
              exact ⟨_, some R, rfl, PV.out _ _, HE.out, (hbel.setCell (p := ⟨w.heap.size + 3, 0, none⟩) (by simp) _).setCell (p := ⟨w.heap.size + 3, 1, none⟩) (by simp) _⟩
end Go.Proofs.YtlbihllmpbhhcaaDoor
