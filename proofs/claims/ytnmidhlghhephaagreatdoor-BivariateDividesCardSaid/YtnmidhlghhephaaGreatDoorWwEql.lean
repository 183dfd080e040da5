/- laurent.combine. -/
/- laurent: Add, Neg, Term, Zero, Big, Low, High. -/
/- laurent.moved (exponents that stay in order), Shift. -/
/- laurent.Term within the limits; terms of package fox in memory; parts of lists of terms (plain). -/
/- slices.Equal at terms; laurent's Equal. -/
import Derived.Test.YtnmidhlghhephaaGreatDoorWwPsu
import Derived.StillTailTactics
import Derived.IntWalk
import Derived.Deep.LoopGhost
import Derived.Deep.RegionHeld3
import Derived.Deep.DeepCutAuto
import Derived.Deep.Cut
import Derived.Deep.QuietTactic
import Derived.BigQuiet
import Derived.Laws.StructEq
namespace Go.Proofs.YtnmidhlghhephaaGreatDoor
open Go.RowKit
set_option linter.unusedVariables false
theorem run_make_terms (n : Nat) (hn : n ≤ 10000000) (W : World) : ∃ cs, (Instr.makeSlice 32 (.int .i64 0) (.int .i64 (n : Int))).run Tryz.prog W = .ok (.slice (some ⟨W.heap.size, 0, none⟩) 0 n) (W.alloc (.cells cs 51)) ∧ cs.size = n * 2 := by
  obtain ⟨i, hi, hz, hs, hby⟩ := info_parts info_term
  have h := run_make (P := Tryz.prog) W 32 51 i _ Tryz.underlying32 hi hz .i64 .i64 0 (n : Int) (Int.le_refl _) (by omega) (by rw [hby]; omega) (by omega)
  refine ⟨_, h, ?_⟩
  rw [size_madeCells, hs]; omega
/-- what combine returns -/
def CombR (f : Int → Int → Int) (p q : Pol) (w : World) (e : Ending) (w' : World) : Prop := ∃ v r, e = .returned v ∧ PolyV w' v r ∧ CombP f p q r ∧ Below w.heap.size w w'
/-- the state of combine's loop -/
structure CSt (w : World) (rb fb : Nat) (fw : FuncId) (A A2 : Option Addr) (c c2 : Nat) (lp lq : List (Int × Int)) (s : Value) (R : List (Int × Int)) (W : World) : Prop where
  own : OwnT (w.heap.size + 4) W s R
  rr : Arr W rb 34 [.bool false, s]
  ff : Arr W fb 4 [.bool (fitsB R)]
  pp : Arr W w.heap.size 34 [.bool false, .slice A lp.length c]
  qq : Arr W (w.heap.size + 1) 34 [.bool false, .slice A2 lq.length c2]
  ww : Arr W (w.heap.size + 2) 91 [.func (.func fw) #[] #[]]
  res : Arr W (w.heap.size + 3) 34 [.bool false, .slice none 0 0]
  bel : Below w.heap.size w W
  hrb : w.heap.size + 4 ≤ rb
  hfb : w.heap.size + 4 ≤ fb
section
variable {w W : World} {rb fb c c2 : Nat} {fw : FuncId} {A A2 : Option Addr} {lp lq R : List (Int × Int)} {s : Value} {f : Int → Int → Int}
theorem CSt.drewN (h : CSt w rb fb fw A A2 c c2 lp lq s R W) (n : Nat) : CSt w rb fb fw A A2 c c2 lp lq s R (W.drewN n) := ⟨h.own, h.rr, h.ff, h.pp, h.qq, h.ww, h.res, bdrewN h.bel n, h.hrb, h.hfb⟩
theorem CSt.drew (h : CSt w rb fb fw A A2 c c2 lp lq s R W) : CSt w rb fb fw A A2 c c2 lp lq s R W.drew := ⟨h.own, h.rr, h.ff, h.pp, h.qq, h.ww, h.res, h.bel.drew, h.hrb, h.hfb⟩
theorem CSt.put (h : CSt w rb fb fw A A2 c c2 lp lq s R W) (hw : CloW fw f) (x a b : Int) (ha1 : -1125899906842624 ≤ a) (ha2 : a ≤ 1125899906842624) (hb1 : -1125899906842624 ≤ b) (hb2 : b ≤ 1125899906842624) (hR : R.length ≤ 10000000) :
    Calls Tryz.prog 72 #[.int .i64 x, .int .i64 a, .int .i64 b, .pointer (some ⟨w.heap.size + 2, 0, none⟩), .pointer (some ⟨fb, 0, none⟩), .pointer (some ⟨rb, 0, none⟩)] W fun e w' => e = .returned (.tuple #[]) ∧ ∃ s', CSt w rb fb fw A A2 c c2 lp lq s' (putR R x (f a b)) w' := by
  have hs := h.res.lt
  refine (put_any fw f hw x a b (w.heap.size + 2) fb rb (w.heap.size + 4) (fitsB R) s R W ha1 ha2 hb1 hb2 h.ww h.ff h.rr h.own hR h.hfb h.hrb (by omega)).mono ?_
  rintro e w' ⟨rfl, s', h1, h2, h3, h4⟩
  have hb := h.hrb
  have hf := h.hfb
  have ap : ∀ k, k < w.heap.size + 4 → k ∉ [fb, rb] ∧ s.ownBlock ≠ some k := fun k hk => ⟨by simp; omega, fun e => by have := (h.own.lt k e).1; omega⟩
  refine ⟨rfl, s', h1, h3, ?_, h4.arr h.pp (ap _ (by omega)).1 (ap _ (by omega)).2, h4.arr h.qq (ap _ (by omega)).1 (ap _ (by omega)).2, h4.arr h.ww (ap _ (by omega)).1 (ap _ (by omega)).2, h4.arr h.res (ap _ (by omega)).1 (ap _ (by omega)).2, h.bel.trans (h4.below.mono (by omega)), hb, hf⟩
  rw [fitsB_put]; exact h2
end
/-- big in, big out -/
theorem comb_big {f : Int → Int → Int} {p q : Pol} (h : p = none ∨ q = none) : CombP f p q none := by
  rcases h with rfl | rfl
  · cases q <;> rfl
  · cases p <;> rfl
set_option maxHeartbeats 8000000 in
set_option maxRecDepth 100000 in
theorem combine_any (fw : FuncId) (f : Int → Int → Int) (hw : CloW fw f) (vp vq : Value) (p q : Pol) (w : World) (hp : PolyV w vp p) (hq : PolyV w vq q) (okp : okP p) (okq : okP q) :
    Calls Tryz.prog 51 #[vp, vq, .func (.func fw) #[] #[]] w (CombR f p q w) := by
  have HPV := Lib.hid (fun W (hb : Below w.heap.size w W) => hp.below hb)
  have HQV := Lib.hid (fun W (hb : Below w.heap.size w W) => hq.below hb)
  obtain ⟨A, c, rfl, hp1⟩ := hp
  obtain ⟨A2, c2, rfl, hq1⟩ := hq
  have HPT := Lib.hid (fun W (hb : Below w.heap.size w W) => hp1.below hb)
  have HQT := Lib.hid (fun W (hb : Below w.heap.size w W) => hq1.below hb)
  clear hp1 hq1 HPV HQV
  have hW : ∀ W, W = ((((w.alloc (.cells #[.bool p.isNone, .slice A (p.getD []).length c] 34)).alloc (.cells #[.bool q.isNone, .slice A2 (q.getD []).length c2] 34)).alloc (.cells #[.func (.func fw) #[] #[]] 91)).alloc (.cells #[.bool false, .slice none 0 0] 34)) → Arr W w.heap.size 34 [.bool p.isNone, .slice A (p.getD []).length c] ∧ Arr W (w.heap.size + 1) 34 [.bool q.isNone, .slice A2 (q.getD []).length c2] ∧ Arr W (w.heap.size + 2) 91 [.func (.func fw) #[] #[]] ∧ Arr W (w.heap.size + 3) 34 [.bool false, .slice none 0 0] ∧ Below w.heap.size w W ∧ W.heap.size = w.heap.size + 4 := by
    intro W hW
    subst hW
    exact ⟨(((Arr.new _ _ [_, _]).alloc _).alloc _).alloc _, ((Arr.newAt (w.alloc _) _ [_, _] _ (by simp)).alloc _).alloc _, (Arr.newAt ((w.alloc _).alloc _) _ [_] _ (by simp)).alloc _, Arr.newAt (((w.alloc _).alloc _).alloc _) _ [_, _] _ (by simp), ((((Below.refl _ _).alloc (Nat.le_refl _) _).alloc (by simp) _).alloc (by simp <;> omega) _).alloc (by simp <;> omega) _, by simp⟩
  go_enter Tryz.func51, Tryz.ntmps51
  go_upto_region 1 with fail
  generalize ((((w.alloc (.cells #[.bool p.isNone, .slice A (p.getD []).length c] 34)).alloc (.cells #[.bool q.isNone, .slice A2 (q.getD []).length c2] 34)).alloc (.cells #[.func (.func fw) #[] #[]] 91)).alloc (.cells #[.bool false, .slice none 0 0] 34)) = w3 at hW ⊢
  obtain ⟨qp, qq, qw, qr, hb3, hs3⟩ := hW w3 rfl
  clear hW
  have y0 := qp.cell 0
  have y1 := qp.cell 1
  have y2 := qq.cell 0
  have y3 := qq.cell 1
  cases p with
  | none =>
    have x0 := qr.cell 0
    have x1 := qr.cell 1
    have f0 := qr.frozen 0
    have f1 := qr.frozen 1
    have hres := Lib.hid ((qr.set 0 (.bool true)).set 1 (.slice none 0 0))
    go_wp2_with fail
    refine bodyPost_ret (v := .agg #[.bool true, .slice none 0 0]) (results_c Tryz.results51 _ _ (w.heap.size + 3) 34 _ _ rfl hres.out Tryz.underlying34 rfl info_poly) rfl ?_
    exact ⟨_, none, rfl, PolyV.big _, comb_big (.inl rfl), (hb3.setCell (p := ⟨w.heap.size + 3, 0, none⟩) (by simp) _).setCell (p := ⟨w.heap.size + 3, 1, none⟩) (by simp) _⟩
  | some lp =>
    cases q with
    | none =>
      have x0 := qr.cell 0
      have x1 := qr.cell 1
      have f0 := qr.frozen 0
      have f1 := qr.frozen 1
      have hres := Lib.hid ((qr.set 0 (.bool true)).set 1 (.slice none 0 0))
      go_wp2_with fail
      refine bodyPost_ret (v := .agg #[.bool true, .slice none 0 0]) (results_c Tryz.results51 _ _ (w.heap.size + 3) 34 _ _ rfl hres.out Tryz.underlying34 rfl info_poly) rfl ?_
      exact ⟨_, none, rfl, PolyV.big _, comb_big (.inr rfl), (hb3.setCell (p := ⟨w.heap.size + 3, 0, none⟩) (by simp) _).setCell (p := ⟨w.heap.size + 3, 1, none⟩) (by simp) _⟩
    | some lq =>
      obtain ⟨kp, limp⟩ := okp
      obtain ⟨kq, limq⟩ := okq
      have lp1 := limp.len kp
      have lq1 := limq.len kq
      have HEND := Lib.hid (fun R (h : Mrg f lp lq lp.length lq.length R) => comb_end hw.f0 h limp limq)
      have HCP := Lib.hid limp.co
      have HCQ := Lib.hid limq.co
      have HEP := Lib.hid limp.ex
      have HEQ := Lib.hid limq.ex
      have KP := Lib.hid kp.srt
      have KQ := Lib.hid kq.srt
      have HF0 := Lib.hid hw.f0
      have HST := Lib.hid (Mrg.start (p := lp) (q := lq) hw.f0)
      have HW := Lib.hid hw
      clear kp kq limp limq hw
      replace qp : Arr w3 w.heap.size 34 [.bool false, .slice A lp.length c] := qp
      replace qq : Arr w3 (w.heap.size + 1) 34 [.bool false, .slice A2 lq.length c2] := qq
      replace HPT : Hid (∀ W, Below w.heap.size w W → Tms W (.slice A lp.length c) lp) := HPT
      replace HQT : Hid (∀ W, Below w.heap.size w W → Tms W (.slice A2 lq.length c2) lq) := HQT
      clear y0 y1 y2 y3
      have y0 := qp.cell 0
      have y1 := qp.cell 1
      have y2 := qq.cell 0
      have y3 := qq.cell 1
      obtain ⟨N, hN⟩ : ∃ N, N = lp.length + lq.length := ⟨_, rfl⟩
      have e1 : (lp.length : Int) + (lq.length : Int) = (N : Int) := by omega
      obtain ⟨cs, hmk, hcs⟩ := run_make_terms N (by omega) w3
      have HN := Lib.hid hN
      have HCS := Lib.hid hcs
      have HS3 := Lib.hid hs3
      clear hN hcs hs3
      go_upto_region 6 with fail
      have hX : ∀ W, W = ((w3.alloc (.cells cs 51)).alloc (.cells #[.bool false, .slice (some ⟨w3.heap.size, 0, none⟩) 0 N] 34)).alloc (.cells #[.bool true] 4) → Arr W w.heap.size 34 [.bool false, .slice A lp.length c] ∧ Arr W (w.heap.size + 1) 34 [.bool false, .slice A2 lq.length c2] ∧ Arr W (w.heap.size + 2) 91 [.func (.func fw) #[] #[]] ∧ Arr W (w.heap.size + 3) 34 [.bool false, .slice none 0 0] ∧ OwnT (w.heap.size + 4) W (.slice (some ⟨w3.heap.size, 0, none⟩) 0 N) [] ∧ Arr W (w3.heap.size + 1) 34 [.bool false, .slice (some ⟨w3.heap.size, 0, none⟩) 0 N] ∧ Arr W (w3.heap.size + 2) 4 [.bool true] ∧ Below w.heap.size w W ∧ W.heap.size = w3.heap.size + 3 := by
        intro W hW
        subst hW
        refine ⟨((qp.alloc _).alloc _).alloc _, ((qq.alloc _).alloc _).alloc _, ((qw.alloc _).alloc _).alloc _, ((qr.alloc _).alloc _).alloc _, ?_, (Arr.newAt (w3.alloc _) _ [_, _] _ (by simp)).alloc _, Arr.newAt ((w3.alloc _).alloc _) _ [_] _ (by simp), ((hb3.alloc (Nat.le_of_lt (Nat.lt_of_lt_of_le (Nat.lt_succ_self _) (by rw [HS3.out]; omega))) _).alloc (by simp; rw [HS3.out]; omega) _).alloc (by simp; rw [HS3.out]; omega) _, by simp⟩
        have h1 : OwnT (w.heap.size + 4) (w3.alloc (.cells cs 51)) (.slice (some ⟨w3.heap.size, 0, none⟩) 0 N) [] := ⟨rfl, .inr ⟨w3.heap.size, N, cs, rfl, by rw [HS3.out]; omega, heap_alloc_new w3 _, Nat.zero_le _, by have := HN.out; unfold maxLen; omega, HCS.out, rfl⟩⟩
        exact (h1.below ((Below.refl _ _).alloc (Nat.le_refl _) _)).below ((Below.refl _ _).alloc (Nat.le_refl _) _)
      generalize (((w3.alloc (.cells cs 51)).alloc (.cells #[.bool false, .slice (some ⟨w3.heap.size, 0, none⟩) 0 N] 34)).alloc (.cells #[.bool true] 4)) = w6 at hX ⊢
      obtain ⟨p6, q6, u6, r6, s6, rb6, fb6, hb6, hs6⟩ := hX w6 rfl
      clear hX qp qq qw qr hb3 y0 y1 y2 y3 hmk HCS HN e1
      have hs3 := HS3.out
      have HS6 := Lib.hid hs6
      clear hs6
      generalize (Value.slice (some ⟨w3.heap.size, 0, none⟩) 0 N) = s0 at *
      have hst0 : CSt w (w3.heap.size + 1) (w3.heap.size + 2) fw A A2 c c2 lp lq s0 [] w6 := ⟨s6, rb6, fb6, p6, q6, u6, r6, hb6, by omega, by omega⟩
      go_wp2_with fail
      clear s6 rb6 fb6 p6 q6 u6 r6 hb6 HS6 hs3 HS3
      go_loopg [10, 11] (lp.length + lq.length) (fun gk s10 s11 wr => ∃ (i j : Nat) (R : List (Int × Int)) (s : Value), i ≤ lp.length ∧ j ≤ lq.length ∧ gk = (lp.length - i) + (lq.length - j) ∧ s10 = .int .i64 (i : Int) ∧ s11 = .int .i64 (j : Int) ∧ Hid (Mrg f lp lq i j R) ∧ CSt w (w3.heap.size + 1) (w3.heap.size + 2) fw A A2 c c2 lp lq s R wr)
      case atStart => exact ⟨0, 0, [], s0, Nat.zero_le _, Nat.zero_le _, by omega, rfl, rfl, HST, hst0⟩
      case round =>
        clear HST hst0
        obtain ⟨i, j, R, s, hi, hj, rfl, rfl, rfl, HM, hst⟩ := hrel
        have hR : R.length ≤ 10000000 := by have := HM.out.len; omega
        have HBL := Lib.hid hst.bel
        have y0 := hst.pp.cell 1
        have y1 := hst.qq.cell 1
        by_cases hlp : i < lp.length
        · have z1 : (i : Int) < (lp.length : Int) := by omega
          obtain ⟨b, o, hA, _, _, _⟩ := (HPT.out wr hst.bel).at_ hlp
          subst hA
          have CP0 := Lib.hid (fun W (hb : Below w.heap.size w W) => (HPT.out W hb).cells hlp)
          have hpe := HEP.out _ (List.getElem_mem hlp)
          have hpc := HCP.out _ (List.getElem_mem hlp)
          have c0 := (CP0.out wr hst.bel).1
          have c1 := (CP0.out wr hst.bel).2
          have zi : ((i : Int) == (lp.length : Int)) = false := by simp; omega
          by_cases hlq : j < lq.length
          · have z2 : (j : Int) < (lq.length : Int) := by omega
            obtain ⟨b2, o2, hA2, _, _, _⟩ := (HQT.out wr hst.bel).at_ hlq
            subst hA2
            have CQ0 := Lib.hid (fun W (hb : Below w.heap.size w W) => (HQT.out W hb).cells hlq)
            have hqe := HEQ.out _ (List.getElem_mem hlq)
            have hqc := HCQ.out _ (List.getElem_mem hlq)
            have d0 := (CQ0.out wr hst.bel).1
            have d1 := (CQ0.out wr hst.bel).2
            have zj : ((j : Int) == (lq.length : Int)) = false := by simp; omega
            rcases Int.lt_trichotomy lp[i].1 lq[j].1 with hlt | hlt | hlt
            · have MR := Lib.hid (HM.out.left HF0.out KP.out KQ.out hlp (Mrg.lt_right KQ.out hlq hlt))
              generalize lp[i].1 = pe at *
              generalize lp[i].2 = pc at *
              generalize lq[j].1 = qe at *
              generalize lq[j].2 = qc at *
              clear HM HEND HPT HQT KP KQ HCP HCQ HEP HEQ HF0
              go_wp2_with fail
              go_quiet (fail)
              clear y0 y1 c0 c1 d0 d1
              replace hst := hst.drewN nq
              generalize wr.drewN nq = wr0 at hst ⊢
              clear nq
              have y0 := hst.pp.cell 1
              have y1 := hst.qq.cell 1
              have c0 := (CP0.out wr0 hst.bel).1
              have c1 := (CP0.out wr0 hst.bel).2
              have d0 := (CQ0.out wr0 hst.bel).1
              have d1 := (CQ0.out wr0 hst.bel).2
              go_wp2_with fail
              go_still_tail 13, (by kernel_rfl)
              change wpList _ _ _ _ _ wr0.drew
              clear y0 y1 c0 c1 d0 d1
              replace hst := hst.drew
              generalize wr0.drew = wz at hst ⊢
              have y0 := hst.pp.cell 1
              have y1 := hst.qq.cell 1
              have c0 := (CP0.out wz hst.bel).1
              have c1 := (CP0.out wz hst.bel).2
              have d0 := (CQ0.out wz hst.bel).1
              have d1 := (CQ0.out wz hst.bel).2
              go_wp2_with fail
              have HC := Lib.hid (hst.put HW.out pe pc 0 (by omega) (by omega) (by omega) (by omega) hR)
              refine Calls.mono HC.out ?_
              rintro e w5 ⟨rfl, s', hst5⟩
              clear y0 y1 c0 c1 d0 d1 hst
              go_wp2_with fail
              go_roundg ((lp.length - (i + 1)) + (lq.length - (j)))
              case measure => omega
              case rel => exact ⟨i + 1, j, _, s', by omega, by omega, rfl, by first | rfl | go_num, by first | rfl | go_num, MR, hst5⟩
            · have MR := Lib.hid (HM.out.both HF0.out KP.out KQ.out hlp hlq hlt)
              have n1 : ¬ (lp[i].1 < lq[j].1) := by omega
              have n2 : ¬ (lq[j].1 < lp[i].1) := by omega
              clear hlt
              generalize lp[i].1 = pe at *
              generalize lp[i].2 = pc at *
              generalize lq[j].1 = qe at *
              generalize lq[j].2 = qc at *
              clear HM HEND HPT HQT KP KQ HCP HCQ HEP HEQ HF0
              go_wp2_with fail
              go_quiet (fail)
              clear y0 y1 c0 c1 d0 d1
              replace hst := hst.drewN nq
              generalize wr.drewN nq = wr0 at hst ⊢
              clear nq
              have y0 := hst.pp.cell 1
              have y1 := hst.qq.cell 1
              have c0 := (CP0.out wr0 hst.bel).1
              have c1 := (CP0.out wr0 hst.bel).2
              have d0 := (CQ0.out wr0 hst.bel).1
              have d1 := (CQ0.out wr0 hst.bel).2
              go_wp2_with fail
              go_quiet (fail)
              clear y0 y1 c0 c1 d0 d1
              replace hst := hst.drewN nq
              generalize wr0.drewN nq = wr1 at hst ⊢
              clear nq
              have y0 := hst.pp.cell 1
              have y1 := hst.qq.cell 1
              have c0 := (CP0.out wr1 hst.bel).1
              have c1 := (CP0.out wr1 hst.bel).2
              have d0 := (CQ0.out wr1 hst.bel).1
              have d1 := (CQ0.out wr1 hst.bel).2
              go_wp2_with fail
              go_still_tail 19, (by kernel_rfl)
              change wpList _ _ _ _ _ wr1.drew
              clear y0 y1 c0 c1 d0 d1
              replace hst := hst.drew
              generalize wr1.drew = wz at hst ⊢
              have y0 := hst.pp.cell 1
              have y1 := hst.qq.cell 1
              have c0 := (CP0.out wz hst.bel).1
              have c1 := (CP0.out wz hst.bel).2
              have d0 := (CQ0.out wz hst.bel).1
              have d1 := (CQ0.out wz hst.bel).2
              go_wp2_with fail
              have HC := Lib.hid (hst.put HW.out pe pc qc (by omega) (by omega) (by omega) (by omega) hR)
              refine Calls.mono HC.out ?_
              rintro e w5 ⟨rfl, s', hst5⟩
              clear y0 y1 c0 c1 d0 d1 hst
              go_wp2_with fail
              go_roundg ((lp.length - (i + 1)) + (lq.length - (j + 1)))
              case measure => omega
              case rel => exact ⟨i + 1, j + 1, _, s', by omega, by omega, rfl, by first | rfl | go_num, by first | rfl | go_num, MR, hst5⟩
            · have MR := Lib.hid (HM.out.right HF0.out KP.out KQ.out hlq (Mrg.lt_right KP.out hlp hlt))
              have n1 : ¬ (lp[i].1 < lq[j].1) := by omega
              generalize lp[i].1 = pe at *
              generalize lp[i].2 = pc at *
              generalize lq[j].1 = qe at *
              generalize lq[j].2 = qc at *
              clear HM HEND HPT HQT KP KQ HCP HCQ HEP HEQ HF0
              go_wp2_with fail
              go_quiet (fail)
              clear y0 y1 c0 c1 d0 d1
              replace hst := hst.drewN nq
              generalize wr.drewN nq = wr0 at hst ⊢
              clear nq
              have y0 := hst.pp.cell 1
              have y1 := hst.qq.cell 1
              have c0 := (CP0.out wr0 hst.bel).1
              have c1 := (CP0.out wr0 hst.bel).2
              have d0 := (CQ0.out wr0 hst.bel).1
              have d1 := (CQ0.out wr0 hst.bel).2
              go_wp2_with fail
              go_quiet (fail)
              clear y0 y1 c0 c1 d0 d1
              replace hst := hst.drewN nq
              generalize wr0.drewN nq = wr1 at hst ⊢
              clear nq
              have y0 := hst.pp.cell 1
              have y1 := hst.qq.cell 1
              have c0 := (CP0.out wr1 hst.bel).1
              have c1 := (CP0.out wr1 hst.bel).2
              have d0 := (CQ0.out wr1 hst.bel).1
              have d1 := (CQ0.out wr1 hst.bel).2
              go_wp2_with fail
              go_still_tail 13, (by kernel_rfl)
              change wpList _ _ _ _ _ wr1.drew
              clear y0 y1 c0 c1 d0 d1
              replace hst := hst.drew
              generalize wr1.drew = wz at hst ⊢
              have y0 := hst.pp.cell 1
              have y1 := hst.qq.cell 1
              have c0 := (CP0.out wz hst.bel).1
              have c1 := (CP0.out wz hst.bel).2
              have d0 := (CQ0.out wz hst.bel).1
              have d1 := (CQ0.out wz hst.bel).2
              go_wp2_with fail
              have HC := Lib.hid (hst.put HW.out qe 0 qc (by omega) (by omega) (by omega) (by omega) hR)
              refine Calls.mono HC.out ?_
              rintro e w5 ⟨rfl, s', hst5⟩
              clear y0 y1 c0 c1 d0 d1 hst
              go_wp2_with fail
              go_roundg ((lp.length - (i)) + (lq.length - (j + 1)))
              case measure => omega
              case rel => exact ⟨i, j + 1, _, s', by omega, by omega, rfl, by first | rfl | go_num, by first | rfl | go_num, MR, hst5⟩
          · obtain rfl : j = lq.length := by omega
            clear hlq hj
            have MR := Lib.hid (HM.out.left HF0.out KP.out KQ.out hlp (fun s hs => by rw [List.drop_length] at hs; cases hs))
            generalize lp[i].1 = pe at *
            generalize lp[i].2 = pc at *
            clear HM HEND HPT HQT KP KQ HCP HCQ HEP HEQ HF0
            go_wp2_with fail
            go_quiet (fail)
            clear y0 y1 c0 c1
            replace hst := hst.drewN nq
            generalize wr.drewN nq = wr0 at hst ⊢
            clear nq
            have y0 := hst.pp.cell 1
            have y1 := hst.qq.cell 1
            have c0 := (CP0.out wr0 hst.bel).1
            have c1 := (CP0.out wr0 hst.bel).2
            go_wp2_with fail
            go_still_tail 13, (by kernel_rfl)
            change wpList _ _ _ _ _ wr0.drew
            clear y0 y1 c0 c1
            replace hst := hst.drew
            generalize wr0.drew = wz at hst ⊢
            have y0 := hst.pp.cell 1
            have y1 := hst.qq.cell 1
            have c0 := (CP0.out wz hst.bel).1
            have c1 := (CP0.out wz hst.bel).2
            go_wp2_with fail
            have HC := Lib.hid (hst.put HW.out pe pc 0 (by omega) (by omega) (by omega) (by omega) hR)
            refine Calls.mono HC.out ?_
            rintro e w5 ⟨rfl, s', hst5⟩
            clear y0 y1 c0 c1 hst
            go_wp2_with fail
            go_roundg ((lp.length - (i + 1)) + (lq.length - (lq.length)))
            case measure => omega
            case rel => exact ⟨i + 1, lq.length, _, s', by omega, by omega, rfl, by first | rfl | go_num, by first | rfl | go_num, MR, hst5⟩
        · obtain rfl : i = lp.length := by omega
          clear hlp hi
          have z1 : ¬ ((lp.length : Int) < (lp.length : Int)) := by omega
          by_cases hlq : j < lq.length
          · have z2 : (j : Int) < (lq.length : Int) := by omega
            obtain ⟨b2, o2, hA2, _, _, _⟩ := (HQT.out wr hst.bel).at_ hlq
            subst hA2
            have CQ0 := Lib.hid (fun W (hb : Below w.heap.size w W) => (HQT.out W hb).cells hlq)
            have hqe := HEQ.out _ (List.getElem_mem hlq)
            have hqc := HCQ.out _ (List.getElem_mem hlq)
            have d0 := (CQ0.out wr hst.bel).1
            have d1 := (CQ0.out wr hst.bel).2
            have zj : ((j : Int) == (lq.length : Int)) = false := by simp; omega
            have MR := Lib.hid (HM.out.right HF0.out KP.out KQ.out hlq (fun s hs => by rw [List.drop_length] at hs; cases hs))
            generalize lq[j].1 = qe at *
            generalize lq[j].2 = qc at *
            clear HM HEND HPT HQT KP KQ HCP HCQ HEP HEQ HF0
            go_wp2_with fail
            go_quiet (fail)
            clear y0 y1 d0 d1
            replace hst := hst.drewN nq
            generalize wr.drewN nq = wr0 at hst ⊢
            clear nq
            have y0 := hst.pp.cell 1
            have y1 := hst.qq.cell 1
            have d0 := (CQ0.out wr0 hst.bel).1
            have d1 := (CQ0.out wr0 hst.bel).2
            go_wp2_with fail
            go_quiet (fail)
            clear y0 y1 d0 d1
            replace hst := hst.drewN nq
            generalize wr0.drewN nq = wr1 at hst ⊢
            clear nq
            have y0 := hst.pp.cell 1
            have y1 := hst.qq.cell 1
            have d0 := (CQ0.out wr1 hst.bel).1
            have d1 := (CQ0.out wr1 hst.bel).2
            go_wp2_with fail
            go_still_tail 13, (by kernel_rfl)
            change wpList _ _ _ _ _ wr1.drew
            clear y0 y1 d0 d1
            replace hst := hst.drew
            generalize wr1.drew = wz at hst ⊢
            have y0 := hst.pp.cell 1
            have y1 := hst.qq.cell 1
            have d0 := (CQ0.out wz hst.bel).1
            have d1 := (CQ0.out wz hst.bel).2
            go_wp2_with fail
            have HC := Lib.hid (hst.put HW.out qe 0 qc (by omega) (by omega) (by omega) (by omega) hR)
            refine Calls.mono HC.out ?_
            rintro e w5 ⟨rfl, s', hst5⟩
            clear y0 y1 d0 d1 hst
            go_wp2_with fail
            go_roundg ((lp.length - (lp.length)) + (lq.length - (j + 1)))
            case measure => omega
            case rel => exact ⟨lp.length, j + 1, _, s', by omega, by omega, rfl, by first | rfl | go_num, by first | rfl | go_num, MR, hst5⟩
          · obtain rfl : j = lq.length := by omega
            have HE := Lib.hid (HEND.out R HM.out)
            clear HM HEND HPT HQT KP KQ HCP HCQ HEP HEQ HF0 HW hlq hj
            have zz : ¬ ((lq.length : Int) < (lq.length : Int)) := by omega
            have b0 := hst.ff.cell 0
            have x0 := hst.res.cell 0
            have x1 := hst.res.cell 1
            have f0 := hst.res.frozen 0
            have f1 := hst.res.frozen 1
            cases hfb : fitsB R with
            | false =>
              rw [hfb] at HE b0
              clear hfb
              have hres := Lib.hid ((hst.res.set 0 (.bool true)).set 1 (.slice none 0 0))
              have hbel := hst.bel
              clear hst
              go_wp2_with fail
              refine bodyPost_ret (v := .agg #[.bool true, .slice none 0 0]) (results_c Tryz.results51 _ _ (w.heap.size + 3) 34 _ _ rfl hres.out Tryz.underlying34 rfl info_poly) rfl ?_
              exact ⟨_, none, rfl, PolyV.big _, HE.out, (hbel.setCell (p := ⟨w.heap.size + 3, 0, none⟩) (by simp) _).setCell (p := ⟨w.heap.size + 3, 1, none⟩) (by simp) _⟩
            | true =>
              rw [hfb] at HE b0
              clear hfb
              have ho := hst.own
              have a1 := ho.apart hst.res (by decide)
              have PV := Lib.hid (fun u1 u2 => PolyV.own ((ho.far (p := ⟨w.heap.size + 3, 0, none⟩) a1 u1).far (p := ⟨w.heap.size + 3, 1, none⟩) a1 u2))
              have r0 := hst.rr.cell 0
              have r1 := hst.rr.cell 1
              have hbel := hst.bel
              have hrs := hst.res
              obtain ⟨B5, n5, c5, rfl⟩ := ho.form3
              have hres := Lib.hid ((hrs.set 0 (.bool false)).set 1 (.slice B5 n5 c5))
              clear hst ho a1 hrs
              go_wp2_with fail
              refine bodyPost_ret (v := .agg #[.bool false, .slice B5 n5 c5]) (results_c Tryz.results51 _ _ (w.heap.size + 3) 34 _ _ rfl hres.out Tryz.underlying34 rfl info_poly) rfl ?_
              exact ⟨_, some R, rfl, PV.out _ _, HE.out, (hbel.setCell (p := ⟨w.heap.size + 3, 0, none⟩) (by simp) _).setCell (p := ⟨w.heap.size + 3, 1, none⟩) (by simp) _⟩
end Go.Proofs.YtnmidhlghhephaaGreatDoor

namespace Go.Proofs.YtnmidhlghhephaaGreatDoor
open Go.RowKit
set_option linter.unusedVariables false
/-- terms are integers: they lie in no box of a polynomial -/
theorem Tms.box {w : World} {v : Value} {l : List (Int × Int)} {g : Nat} {t : TypeId} {b : Bool} {A : Option Addr} {n c : Nat} (h : Tms w v l) (hg : Arr w g t [.bool b, .slice A n c]) (u1 u2 : Value) : Tms ((w.setCell ⟨g, 0, none⟩ u1).setCell ⟨g, 1, none⟩ u2) v l := by
  obtain ⟨A', c', hv, hx⟩ := h
  refine ⟨A', c', hv, fun k hk => ?_⟩
  obtain ⟨b', o', hA, h1, h2, cs3, fr3, h3⟩ := hx k hk
  have ne : g ≠ b' := fun e => by
    subst e
    rw [hg.cell] at h1
    rcases (by omega : o' + k * 2 = 0 ∨ o' + k * 2 = 1 ∨ 2 ≤ o' + k * 2) with q | q | q
    · rw [q] at h1; injection h1 with h1; cases h1
    · rw [q] at h1; injection h1 with h1; cases h1
    · rw [List.getElem?_eq_none (by simpa using q)] at h1; cases h1
  refine ⟨b', o', hA, ?_, ?_, cs3, fr3, (Below.heap_setCell _ _ _ b' (Ne.symm ne)).trans ((Below.heap_setCell _ _ _ b' (Ne.symm ne)).trans h3)⟩
  · rw [World.cell?_setCell_far _ _ _ _ ne, World.cell?_setCell_far _ _ _ _ ne]; exact h1
  · rw [World.cell?_setCell_far _ _ _ _ ne, World.cell?_setCell_far _ _ _ _ ne]; exact h2
theorem PolyV.box {w : World} {v : Value} {p : Pol} {g : Nat} {t : TypeId} {b : Bool} {A : Option Addr} {n c : Nat} (h : PolyV w v p) (hg : Arr w g t [.bool b, .slice A n c]) (u1 u2 : Value) : PolyV ((w.setCell ⟨g, 0, none⟩ u1).setCell ⟨g, 1, none⟩ u2) v p := by
  obtain ⟨A', c', hv, hx⟩ := h
  exact ⟨A', c', hv, hx.box hg u1 u2⟩
/-- a polynomial's parts under names of their own -/
theorem PolyV.parts {w : World} {v : Value} {p : Pol} (h : PolyV w v p) : ∃ (b : Bool) (A : Option Addr) (n c : Nat), v = .agg #[.bool b, .slice A n c] ∧ b = p.isNone ∧ n = (p.getD []).length := by
  obtain ⟨A, c, hv, _⟩ := h
  exact ⟨_, A, _, c, hv, rfl, rfl⟩
set_option maxHeartbeats 1000000 in
set_option maxRecDepth 100000 in
theorem Add_any (vp vq : Value) (p q : Pol) (w : World) (hp : PolyV w vp p) (hq : PolyV w vq q) (okp : okP p) (okq : okP q) :
    Calls Tryz.prog 23 #[vp, vq] w (CombR (fun a b => a + b) p q w) := by
  have HC := Lib.hid (fun W (hb : Below w.heap.size w W) => combine_any 52 _ clo_add vp vq p q W (hp.below hb) (hq.below hb) okp okq)
  obtain ⟨b1, A, n, c, rfl, j1, j2⟩ := hp.parts
  obtain ⟨b2, A2, n2, c2, rfl, j3, j4⟩ := hq.parts
  clear hp okp j1 j2 hq okq j3 j4
  have hW : ∀ W, W = (((w.alloc (.cells #[.bool b1, .slice A n c] 34)).alloc (.cells #[.bool b2, .slice A2 n2 c2] 34)).alloc (.cells #[.bool false, .slice none 0 0] 34)) → Arr W w.heap.size 34 [.bool b1, .slice A n c] ∧ Arr W (w.heap.size + 1) 34 [.bool b2, .slice A2 n2 c2] ∧ Arr W (w.heap.size + 2) 34 [.bool false, .slice none 0 0] ∧ Below w.heap.size w W := by
    intro W hW
    subst hW
    exact ⟨((Arr.new _ _ [_, _]).alloc _).alloc _, (Arr.newAt (w.alloc _) _ [_, _] _ (by simp)).alloc _, Arr.newAt ((w.alloc _).alloc _) _ [_, _] _ (by simp), (((Below.refl _ _).alloc (Nat.le_refl _) _).alloc (by simp) _).alloc (by simp <;> omega) _⟩
  go_enter Tryz.func23, Tryz.ntmps23
  go_upto_region 1 with fail
  generalize (((w.alloc (.cells #[.bool b1, .slice A n c] 34)).alloc (.cells #[.bool b2, .slice A2 n2 c2] 34)).alloc (.cells #[.bool false, .slice none 0 0] 34)) = w3 at hW ⊢
  obtain ⟨qp, qq, qr, hb3⟩ := hW w3 rfl
  clear hW
  have y0 := qp.cell 0
  have y1 := qp.cell 1
  have y2 := qq.cell 0
  have y3 := qq.cell 1
  have HC3 := Lib.hid (HC.out w3 hb3)
  clear HC
  go_wp2_with fail
  ((with_reducible refine HC3.out.mono ?_); skip)
  rintro e w4 ⟨v, r, rfl, hv, hr, hb4⟩
  have q4 := qr.below hb4 qr.lt
  have hb4' := hb3.trans (hb4.mono hb3.size)
  have HV := Lib.hid (fun u1 u2 => hv.box q4 u1 u2)
  have HR := Lib.hid hr
  obtain ⟨b5, A5, n5, c5, rfl, j5, j6⟩ := hv.parts
  clear j5 j6 hv hr y0 y1 qp qr HC3 y2 y3 qq
  have x0 := q4.cell 0
  have x1 := q4.cell 1
  have f0 := q4.frozen 0
  have f1 := q4.frozen 1
  have hres := Lib.hid ((q4.set 0 (.bool b5)).set 1 (.slice A5 n5 c5))
  go_wp2_with fail
  refine bodyPost_ret (v := .agg #[.bool b5, .slice A5 n5 c5]) (results_c Tryz.results23 _ _ (w.heap.size + 2) 34 _ _ rfl hres.out Tryz.underlying34 rfl info_poly) rfl ?_
  exact ⟨_, r, rfl, HV.out _ _, HR.out, (hb4'.setCell (p := ⟨w.heap.size + 2, 0, none⟩) (by simp) _).setCell (p := ⟨w.heap.size + 2, 1, none⟩) (by simp) _⟩
set_option maxHeartbeats 1000000 in
theorem Big_any (vp : Value) (p : Pol) (w : World) (hp : PolyV w vp p) : Calls Tryz.prog 20 #[vp] w fun e w' => e = .returned (.bool p.isNone) ∧ Below w.heap.size w w' := by
  obtain ⟨b1, A, n, c, rfl, hb, _⟩ := hp.parts
  rw [← hb]
  clear hp hb
  go_enter Tryz.func20, Tryz.ntmps20
  go_wp2_with fail
  go_ret
  exact ⟨rfl, (Below.refl _ _).alloc (Nat.le_refl _) _⟩
/-- the polynomial 0 -/
def zeroB : Pol → Bool
  | some [] => true
  | _ => false
set_option maxHeartbeats 1000000 in
theorem Zero_any (vp : Value) (p : Pol) (w : World) (hp : PolyV w vp p) (okp : okP p) : Calls Tryz.prog 47 #[vp] w fun e w' => e = .returned (.bool (zeroB p)) ∧ Below w.heap.size w w' := by
  obtain ⟨b1, A, n, c, rfl, hb, hn⟩ := hp.parts
  have hz : zeroB p = (!b1 && (n : Int) == 0) := by
    rw [hb, hn]
    cases p with
    | none => rfl
    | some l => cases l with
      | nil => rfl
      | cons t l =>
        have : (((l.length + 1 : Nat) : Int) == 0) = false := by simp; omega
        show false = (!false && (((l.length + 1 : Nat) : Int) == 0))
        rw [this]; rfl
  rw [hz]
  clear hp hb hz hn okp
  cases b1 with
  | true =>
    go_enter Tryz.func47, Tryz.ntmps47
    go_wp2_with fail
    go_ret
    exact ⟨rfl, (Below.refl _ _).alloc (Nat.le_refl _) _⟩
  | false =>
    rcases Nat.eq_zero_or_pos n with rfl | h0
    · go_enter Tryz.func47, Tryz.ntmps47
      go_wp2_with fail
      go_ret
      exact ⟨rfl, (Below.refl _ _).alloc (Nat.le_refl _) _⟩
    · have z1 : ((n : Int) == 0) = false := by simp; omega
      rw [z1]
      go_enter Tryz.func47, Tryz.ntmps47
      go_wp2_with fail
      go_ret
      exact ⟨rfl, (Below.refl _ _).alloc (Nat.le_refl _) _⟩
end Go.Proofs.YtnmidhlghhephaaGreatDoor

namespace Go.Proofs.YtnmidhlghhephaaGreatDoor
open Go.RowKit
set_option linter.unusedVariables false
theorem wiB_iff {v l : Int} : wiB v l = true ↔ -l ≤ v ∧ v ≤ l := by unfold wiB; simp
section
variable {w W W' : World} {rb : Nat} {s : Value} {R : List (Int × Int)}
end
theorem OwnT.made {w : World} {base n : Nat} {cs : Array Value} (hb : base ≤ w.heap.size) (hn : n ≤ 10000000) (hc : cs.size = n * 2) : OwnT base (w.alloc (.cells cs 51)) (.slice (some ⟨w.heap.size, 0, none⟩) 0 n) [] :=
  ⟨rfl, .inr ⟨w.heap.size, n, cs, rfl, hb, heap_alloc_new w _, Nat.zero_le _, by unfold maxLen; omega, by omega, by simp⟩⟩
end Go.Proofs.YtnmidhlghhephaaGreatDoor

namespace Go.Proofs.YtnmidhlghhephaaGreatDoor
open Go.RowKit
set_option linter.unusedVariables false
set_option maxHeartbeats 1000000 in
theorem Term_any (co ex : Int) (w : World) (h0 : co ≠ 0) (h1 : -1125899906842624 ≤ co) (h2 : co ≤ 1125899906842624) (h3 : -1048576 ≤ ex) (h4 : ex ≤ 1048576) :
    Calls Tryz.prog 8 #[.int .i64 co, .int .i64 ex] w fun e w' => ∃ v, e = .returned v ∧ PolyV w' v (some [(ex, co)]) ∧ Below w.heap.size w w' := by
  have z1 : (co == 0) = false := by simp [h0]
  have W1 := Lib.hid (fun W => show Calls Tryz.prog 19 #[.int .i64 co, .int .i64 1125899906842624] W fun e w' => e = .returned (.bool true) ∧ W = w' from by
    have h := within_any co 1125899906842624 W (by omega) (by omega)
    rwa [show wiB co 1125899906842624 = true from decide_eq_true ⟨h1, h2⟩] at h)
  have W2 := Lib.hid (fun W => show Calls Tryz.prog 19 #[.int .i64 ex, .int .i64 1048576] W fun e w' => e = .returned (.bool true) ∧ W = w' from by
    have h := within_any ex 1048576 W (by omega) (by omega)
    rwa [show wiB ex 1048576 = true from decide_eq_true ⟨h3, h4⟩] at h)
  have hW : ∀ W, W = w.alloc (.cells #[.bool false, .slice none 0 0] 34) → Arr W w.heap.size 34 [.bool false, .slice none 0 0] ∧ Below w.heap.size w W ∧ W.heap.size = w.heap.size + 1 := by
    intro W hW
    subst hW
    exact ⟨Arr.new _ _ [_, _], (Below.refl _ _).alloc (Nat.le_refl _) _, by simp⟩
  go_enter Tryz.func8, Tryz.ntmps8
  go_upto_region 1 with fail
  generalize (w.alloc (.cells #[.bool false, .slice none 0 0] 34)) = w3 at hW ⊢
  obtain ⟨qr, hb3, hs3⟩ := hW w3 rfl
  clear hW
  have hset := (qr.set 0 (.bool false)).set 1 (.slice (some ⟨w.heap.size + 1, 0, none⟩) 1 1)
  have hres := Lib.hid (hset.alloc (.cells #[.int .i64 ex, .int .i64 co] 51))
  have HT := Lib.hid (show Tms (((w3.setCell ⟨w.heap.size, 0, none⟩ (.bool false)).setCell ⟨w.heap.size, 1, none⟩ (.slice (some ⟨w.heap.size + 1, 0, none⟩) 1 1)).alloc (.cells #[.int .i64 ex, .int .i64 co] 51)) (.slice (some ⟨w.heap.size + 1, 0, none⟩) 1 1) [(ex, co)] from ⟨_, _, rfl, fun k hk => by
    have ha := Arr.newAt ((w3.setCell ⟨w.heap.size, 0, none⟩ (.bool false)).setCell ⟨w.heap.size, 1, none⟩ (.slice (some ⟨w.heap.size + 1, 0, none⟩) 1 1)) 51 [.int .i64 ex, .int .i64 co] (w.heap.size + 1) (by simp; omega)
    obtain rfl : k = 0 := by simpa using hk
    exact ⟨w.heap.size + 1, 0, rfl, ha.cell 0, ha.cell 1, _, _, ha⟩⟩)
  have HB := Lib.hid (((hb3.setCell (p := ⟨w.heap.size, 0, none⟩) (Nat.le_refl _) (.bool false)).setCell (p := ⟨w.heap.size, 1, none⟩) (Nat.le_refl _) (.slice (some ⟨w.heap.size + 1, 0, none⟩) 1 1)).alloc (by simp; omega) (.cells #[.int .i64 ex, .int .i64 co] 51))
  clear hset
  have x0 := qr.cell 0
  have x1 := qr.cell 1
  have f0 := qr.frozen 0
  have f1 := qr.frozen 1
  have hlt := qr.lt
  clear h0
  go_wp2_with (first | (go_at_call_of 19 (Value.int IntKind.i64 1125899906842624); refine (W1.out _).mono ?_; rintro e w1 ⟨rfl, rfl⟩) | (go_at_call 19; refine (W2.out _).mono ?_; rintro e w1 ⟨rfl, rfl⟩))
  refine bodyPost_ret (v := .agg #[.bool false, .slice (some ⟨w.heap.size + 1, 0, none⟩) 1 1]) (results_c Tryz.results8 _ _ w.heap.size 34 _ _ rfl hres.out Tryz.underlying34 rfl info_poly) rfl ?_
  exact ⟨_, rfl, ⟨_, _, rfl, HT.out⟩, HB.out⟩
/-- a part of a list -/
def sl (ts : List (Int × Int)) (lo hi : Nat) : List (Int × Int) := (ts.take hi).drop lo
end Go.Proofs.YtnmidhlghhephaaGreatDoor

namespace Go.Proofs.YtnmidhlghhephaaGreatDoor
open Go.RowKit
set_option linter.unusedVariables false
def eqT (s t : Int × Int) : Bool := decide (s = t)
theorem neq_term (a b c d : Int) (w : World) : (binOp .neq 51 (.agg #[.int .i64 a, .int .i64 b]) (.agg #[.int .i64 c, .int .i64 d])).run Tryz.prog w = .ok (.bool (!eqT (a, b) (c, d))) w := by
  have u3 := Tryz.underlying3
  have a3 := Tryz.isAgg3
  have z3 := Tryz.sizeOf3
  have hS : Tryz.prog.underlying 51 = some (.struct (Tryz.prog.fieldsOf 51)) := by kernel_rfl
  have hp : Tryz.prog.stoodInHeld 51 = false := by kernel_rfl
  rw [run_neq_struct, show (10000 : Nat) = 9999 + 1 from rfl, run_equalIn_agg w 9999 51 _ _ hS hp]
  simp only [Program.fieldsOf, Tryz.underlying51]
  go_simp
  unfold eqT
  by_cases h1 : a = c <;> by_cases h2 : b = d <;> simp [h1, h2]
theorem guard_term (op : BinOp) (x y : Operand) (xs ys : Array Value) (w : World) : (eqGuard op 51 x y (.agg xs) (.agg ys)).run Tryz.prog w = .ok () w :=
  run_eqGuard_agg w op _ x y xs ys (by kernel_rfl)
def eqL (l m : List (Int × Int)) : Bool := decide (l = m)
theorem eqL_ne {l m : List (Int × Int)} {k : Nat} (h1 : k < l.length) (h2 : k < m.length) (h : eqT l[k] m[k] = false) : eqL l m = false := by
  unfold eqL
  refine decide_eq_false fun e => ?_
  subst e
  unfold eqT at h
  simp at h
set_option maxHeartbeats 2000000 in
set_option maxRecDepth 100000 in
theorem slEqual_any (A A2 : Option Addr) (n n2 c c2 : Nat) (l m : List (Int × Int)) (w : World) (h : Tms w (.slice A n c) l) (k : Tms w (.slice A2 n2 c2) m) (hn : n = l.length) (hn2 : n2 = m.length) (hl : l.length ≤ 4611686018427387904) (hm : m.length ≤ 4611686018427387904) :
    Calls Tryz.prog 36 #[.slice A n c, .slice A2 n2 c2] w fun e w' => e = .returned (.bool (eqL l m)) ∧ ∃ q, w' = w.drewN q := by
  subst hn hn2
  obtain ⟨V, hV⟩ : ∃ V, V = eqL l m := ⟨_, rfl⟩
  rw [← hV]
  have HV := Lib.hid hV
  clear hV
  have HL := Lib.hid h
  have HM := Lib.hid k
  clear h k
  by_cases hlm : l.length = m.length
  · have HLM := Lib.hid hlm
    have z0 : ((l.length : Int) != (m.length : Int)) = false := by rw [hlm]; simp
    clear hlm
    go_enter Tryz.func36, Tryz.ntmps36
    go_wp2_with fail
    go_loopg [13] l.length (fun gk s13 wr => ∃ k q : Nat, k ≤ l.length ∧ gk = l.length - k ∧ s13 = .int .i64 (k : Int) ∧ wr = w.drewN q ∧ Hid (l.take k = m.take k))
    case atStart => exact ⟨0, 0, Nat.zero_le _, rfl, rfl, rfl, Lib.hid rfl⟩
    case round =>
      obtain ⟨k, q, hk, rfl, rfl, rfl, HK⟩ := hrel
      by_cases hlt : k < l.length
      · have hlt2 : k < m.length := by have := HLM.out; omega
        have z1 : (k : Int) < (l.length : Int) := by omega
        have z2 : (k : Int) < (m.length : Int) := by omega
        obtain ⟨b, o, rfl, _, y0, y1⟩ := HL.out.at_ hlt
        obtain ⟨b2, o2, rfl, _, x0, x1⟩ := HM.out.at_ hlt2
        have HN := Lib.hid (fun h => eqL_ne hlt hlt2 h)
        have HY := Lib.hid (fun (h : eqT l[k] m[k] = true) => (show l.take (k + 1) = m.take (k + 1) from by
          rw [take_snoc' hlt, take_snoc' hlt2, HK.out, of_decide_eq_true h]))
        clear HK
        generalize l[k] = s at *
        generalize m[k] = t at *
        obtain ⟨s1, s2⟩ := s
        obtain ⟨t1, t2⟩ := t
        have hne := fun (W : World) => neq_term s1 s2 t1 t2 W
        have hgd := fun (op : BinOp) (x y : Operand) (W : World) => guard_term op x y #[.int .i64 s1, .int .i64 s2] #[.int .i64 t1, .int .i64 t2] W
        cases hE : eqT (s1, s2) (t1, t2) with
        | true =>
          rw [hE] at hne
          have HK2 := Lib.hid (HY.out hE)
          clear HY HN hE
          go_wp2_with fail
          go_quiet (fail)
          go_wp2_with fail
          go_roundg (l.length - (k + 1))
          case measure => omega
          case rel => exact ⟨k + 1, q + nq, by omega, rfl, by go_num, rfl, HK2⟩
        | false =>
          rw [hE] at hne
          have HF := Lib.hid (HN.out hE)
          clear HY HN hE
          go_wp2_with fail
          go_quiet (fail)
          go_wp2_with fail
          go_ret
          exact ⟨by rw [HV.out, HF.out]; rfl, q + nq, World.drewN_drewN _ _ _⟩
      · have z1 : ¬ (k : Int) < (l.length : Int) := by omega
        have HT := Lib.hid (show V = true from by
          rw [HV.out]
          refine decide_eq_true ?_
          have h1 := HK.out
          obtain rfl : k = l.length := by omega
          rw [List.take_length, HLM.out, List.take_length] at h1
          exact h1)
        clear HK
        go_wp2_with fail
        go_ret
        exact ⟨by rw [HT.out]; rfl, q, rfl⟩
  · have z0 : ((l.length : Int) != (m.length : Int)) = true := by simp; omega
    have HF := Lib.hid (show V = false from by rw [HV.out]; exact decide_eq_false fun e => hlm (by rw [e]))
    clear hlm
    go_enter Tryz.func36, Tryz.ntmps36
    go_wp2_with fail
    go_ret
    exact ⟨by rw [HF.out]; rfl, 0, rfl⟩
def eqP (p q : Pol) : Bool := decide (p = q)
set_option maxHeartbeats 2000000 in
set_option maxRecDepth 100000 in
theorem Equal_any (vp vq : Value) (p q : Pol) (w : World) (hp : PolyV w vp p) (hq : PolyV w vq q) (okp : okP p) (okq : okP q) :
    Calls Tryz.prog 13 #[vp, vq] w fun e w' => e = .returned (.bool (eqP p q)) ∧ Below w.heap.size w w' := by
  have hlp : (p.getD []).length ≤ 4611686018427387904 := by
    cases p with
    | none => simp
    | some l => have := okp.2.len okp.1; simp only [Option.getD_some]; omega
  have hlq : (q.getD []).length ≤ 4611686018427387904 := by
    cases q with
    | none => simp
    | some l => have := okq.2.len okq.1; simp only [Option.getD_some]; omega
  obtain ⟨A, c, rfl, h1⟩ := hp
  obtain ⟨A2, c2, rfl, h2⟩ := hq
  have HS := Lib.hid (fun (W : World) (hb : Below w.heap.size w W) => slEqual_any A A2 _ _ c c2 _ _ W (h1.below hb) (h2.below hb) rfl rfl hlp hlq)
  have hE : eqP p q = (p.isNone == q.isNone && eqL (p.getD []) (q.getD [])) := by
    unfold eqP eqL
    cases p <;> cases q <;> simp
  rw [hE]
  clear hE okp okq h1 h2 hlp hlq
  generalize p.isNone = b1 at *
  generalize q.isNone = b2 at *
  generalize eqL (p.getD []) (q.getD []) = E at *
  generalize (p.getD []).length = n at *
  generalize (q.getD []).length = n2 at *
  have hW : ∀ W, W = ((w.alloc (.cells #[.bool b1, .slice A n c] 34)).alloc (.cells #[.bool b2, .slice A2 n2 c2] 34)) → Arr W w.heap.size 34 [.bool b1, .slice A n c] ∧ Arr W (w.heap.size + 1) 34 [.bool b2, .slice A2 n2 c2] ∧ Below w.heap.size w W := by
    intro W hW
    subst hW
    exact ⟨(Arr.new _ _ [_, _]).alloc _, Arr.newAt (w.alloc _) _ [_, _] _ (by simp), ((Below.refl _ _).alloc (Nat.le_refl _) _).alloc (by simp) _⟩
  go_enter Tryz.func13, Tryz.ntmps13
  go_upto_region 1 with fail
  generalize ((w.alloc (.cells #[.bool b1, .slice A n c] 34)).alloc (.cells #[.bool b2, .slice A2 n2 c2] 34)) = w3 at hW ⊢
  obtain ⟨qp, qq, hb3⟩ := hW w3 rfl
  clear hW
  have y0 := qp.cell 0
  have y1 := qp.cell 1
  have x0 := qq.cell 0
  have x1 := qq.cell 1
  have HC := Lib.hid (HS.out w3 hb3)
  clear HS qp qq
  by_cases hb : b1 = b2
  · subst hb
    have z : (b1 == b1) = true := by simp
    go_wp2_with fail
    refine HC.out.mono ?_
    rintro e w4 ⟨rfl, q4, rfl⟩
    go_wp2_with fail
    go_ret
    exact ⟨by simp, bdrewN hb3 q4⟩
  · have z : (b1 == b2) = false := by simp [hb]
    go_wp2_with fail
    go_ret
    exact ⟨by rw [z]; rfl, hb3⟩
end Go.Proofs.YtnmidhlghhephaaGreatDoor
