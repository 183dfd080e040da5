/- bivariate: plus, Add, Sub. -/
/- slices.Equal at terms of two variables; bivariate's Equal, Big. -/
import Derived.Test.YtbfggncmjdhapaaGreatDoorZBpl
import Derived.Laws.StructEq
namespace Go.Proofs.YtbfggncmjdhapaaGreatDoor
open Go.RowKit Go.Maps
set_option linter.unusedVariables false

theorem kr_of_lim {l : List T2} (h : Lim2 l) : Kr l := fun t ht => by
  have := h.ea t ht
  have := h.ez t ht
  exact ⟨by omega, by omega⟩
theorem cb_tm {l : List T2} (h : Lim2 l) {b : Int} (hb : b = 1 ∨ b = -1) : Cb (l.map (tmB b)) := fun t ht => by
  obtain ⟨s, hs, rfl⟩ := List.mem_map.1 ht
  have := h.co s hs
  unfold tmB
  simp only
  rcases hb with h | h <;> rw [h] <;> omega
theorem kr_tm {l : List T2} (h : Kr l) (b : Int) : Kr (l.map (tmB b)) := fun t ht => by
  obtain ⟨s, hs, rfl⟩ := List.mem_map.1 ht
  exact h s hs
theorem cg2_tm (l : List T2) (b : Int) (e : K2) : cg2 (l.map (tmB b)) e = b * cg2 l e := by
  induction l with
  | nil => simp [cg2]
  | cons t l ih =>
    rw [List.map_cons, cg2_cons, cg2_cons, ih, Int.mul_add]
    unfold tmB
    simp only
    split <;> simp
/-- what plus returns -/
def PlusR (b : Int) (p q : PolB) (w : World) (e : Ending) (w' : World) : Prop := ∃ v r, e = .returned v ∧ PolyB w' v r ∧ CombB (fun x y => x + b * y) p q r ∧ Below w.heap.size w w'
def lenB (p : PolB) : Nat := (p.getD []).length
theorem PolyB.tm_some {w : World} {b : Bool} {A : Option Addr} {n c : Nat} {l : List T2} (h : PolyB w (.agg #[.bool b, .slice A n c]) (some l)) : TmB w (.slice A n c) l := h.tm
theorem PolyB.box {w : World} {v : Value} {p : PolB} (h : PolyB w v p) {k : Nat} {cs : List Value} (hk : Arr w k 27 cs) (u1 u2 : Value) : PolyB ((w.setCell ⟨k, 0, none⟩ u1).setCell ⟨k, 1, none⟩ u2) v p := (h.kp (Kp.set hk u1) (by decide)).kp (Kp.set (hk.set 0 u1) u2) (by decide)
theorem run_makeMapB (n : Int) (w : World) : (Instr.makeMap 69 (some (.int .i64 n))).run Tryz.prog w = .ok (.map (some w.heap.size)) (w.alloc (.map #[] 0)) := by
  simp [Instr.makeMap, run_underlying Tryz.underlying69, asInt, asIntOf, Result.andThen]
theorem clo_plus (args : Array Value) (W : World) : (callFunc 69 args).run Tryz.prog W = .ok (.enter 69 args) W := enters_of Tryz.func69 (by kernel_rfl) rfl args W
theorem res_big {r : Nat} {w w3 : World} (ha : Arr w3 r 27 [.bool false, .slice none 0 0]) (hb3 : Below w.heap.size w w3) (hr : w.heap.size ≤ r) : Arr ((w3.setCell ⟨r, 0, none⟩ (.bool true)).setCell ⟨r, 1, none⟩ (.slice none 0 0)) r 27 [.bool true, .slice none 0 0] ∧ Below w.heap.size w ((w3.setCell ⟨r, 0, none⟩ (.bool true)).setCell ⟨r, 1, none⟩ (.slice none 0 0)) :=
  ⟨(ha.set 0 (.bool true)).set 1 (.slice none 0 0), (hb3.setCell (p := ⟨r, 0, none⟩) hr _).setCell (p := ⟨r, 1, none⟩) hr _⟩
set_option maxHeartbeats 4000000 in
set_option maxRecDepth 100000 in
theorem bplus_any (vp vq : Value) (p q : PolB) (b : Int) (w : World) (hp : PolyB w vp p) (hq : PolyB w vq q) (okp : okB2 p) (okq : okB2 q) (hb : b = 1 ∨ b = -1) (hlen : lenB p + lenB q ≤ 1000000) :
    Calls Tryz.prog 33 #[vp, vq, .int .i64 b] w (PlusR b p q w) := by
  have HP := Lib.hid (fun W (hb : Below w.heap.size w W) => hp.below hb)
  have HQ := Lib.hid (fun W (hb : Below w.heap.size w W) => hq.below hb)
  obtain ⟨b1, A, n, c, rfl, j1, j2⟩ := hp.parts
  obtain ⟨b2, A2, n2, c2, rfl, j3, j4⟩ := hq.parts
  clear hp hq
  have hW : ∀ W, W = (((w.alloc (.cells #[.bool b1, .slice A n c] 27)).alloc (.cells #[.bool b2, .slice A2 n2 c2] 27)).alloc (.cells #[.bool false, .slice none 0 0] 27)) → Arr W w.heap.size 27 [.bool b1, .slice A n c] ∧ Arr W (w.heap.size + 1) 27 [.bool b2, .slice A2 n2 c2] ∧ Arr W (w.heap.size + 2) 27 [.bool false, .slice none 0 0] ∧ Below w.heap.size w W ∧ W.heap.size = w.heap.size + 3 := by
    intro W hW
    subst hW
    exact ⟨((Arr.new _ _ [_, _]).alloc _).alloc _, (Arr.newAt (w.alloc _) _ [_, _] _ (by simp)).alloc _, Arr.newAt ((w.alloc _).alloc _) _ [_, _] _ (by simp), (((Below.refl _ _).alloc (Nat.le_refl _) _).alloc (by simp) _).alloc (by simp <;> omega) _, by simp⟩
  by_cases hbg : b1 = true ∨ b2 = true
  · have HC := Lib.hid (show CombB (fun x y => x + b * y) p q none from by
      rcases hbg with h | h
      · cases p with
        | none => cases q <;> rfl
        | some lp => rw [j1] at h; cases h
      · cases q with
        | none => cases p <;> rfl
        | some lp => rw [j3] at h; cases h)
    clear HP HQ okp okq hlen hb j1 j2 j3 j4
    have main : ∀ (x1 x2 : Bool), x1 = b1 → x2 = b2 → (x1 = true ∨ (x1 = false ∧ x2 = true)) → Calls Tryz.prog 33 #[.agg #[.bool x1, .slice A n c], .agg #[.bool x2, .slice A2 n2 c2], .int .i64 b] w (PlusR b p q w) := by
      intro x1 x2 e1 e2 hx
      subst e1 e2
      go_enter Tryz.func33, Tryz.ntmps33
      go_upto_region 1 with fail
      generalize (((w.alloc (.cells #[.bool x1, .slice A n c] 27)).alloc (.cells #[.bool x2, .slice A2 n2 c2] 27)).alloc (.cells #[.bool false, .slice none 0 0] 27)) = w3 at hW ⊢
      obtain ⟨q0, q1, qr, hb3, _⟩ := hW w3 rfl
      have HR := Lib.hid (res_big qr hb3 (Nat.le_add_right _ _))
      have y0 := q0.cell 0
      have y1 := q1.cell 0
      have r0 := qr.cell 0
      have r1 := qr.cell 1
      have f0 := qr.frozen 0
      have f1 := qr.frozen 1
      clear hW q0 q1 qr hb3 hbg
      rcases hx with rfl | ⟨rfl, rfl⟩
      · go_wp2_with fail
        refine bodyPost_ret (v := .agg #[.bool true, .slice none 0 0]) (results_c Tryz.results33 _ _ (w.heap.size + 2) 27 _ _ rfl HR.out.1 Tryz.underlying27 rfl info_polyB) rfl ?_
        exact ⟨_, none, rfl, PolyB.big _, HC.out, HR.out.2⟩
      · go_wp2_with fail
        refine bodyPost_ret (v := .agg #[.bool true, .slice none 0 0]) (results_c Tryz.results33 _ _ (w.heap.size + 2) 27 _ _ rfl HR.out.1 Tryz.underlying27 rfl info_polyB) rfl ?_
        exact ⟨_, none, rfl, PolyB.big _, HC.out, HR.out.2⟩
    exact main b1 b2 rfl rfl (by
      rcases hbg with h | h
      · exact .inl h
      · cases b1
        · exact .inr ⟨rfl, h⟩
        · exact .inl rfl)
  · have h1 : b1 = false := by cases b1 with
      | false => rfl
      | true => exact absurd (.inl rfl) hbg
    have h2 : b2 = false := by cases b2 with
      | false => rfl
      | true => exact absurd (.inr rfl) hbg
    subst h1 h2
    cases p with
    | none => cases j1
    | some lp =>
    cases q with
    | none => cases j3
    | some lq =>
    have hnn : n + n2 ≤ 1000000 := by
      have e1 : lenB (some lp) = n := j2.symm
      have e2 : lenB (some lq) = n2 := j4.symm
      omega
    have HLN := Lib.hid (show lp.length = n ∧ lq.length = n2 from ⟨j2.symm, j4.symm⟩)
    have HOK := Lib.hid (And.intro okp okq)
    have HB := Lib.hid hb
    have hmm := run_makeMapB
    have eg := clo_plus
    clear okp okq hbg j1 j2 j3 j4 hlen hb
    go_enter Tryz.func33, Tryz.ntmps33
    go_upto_region 1 with fail
    generalize (((w.alloc (.cells #[.bool false, .slice A n c] 27)).alloc (.cells #[.bool false, .slice A2 n2 c2] 27)).alloc (.cells #[.bool false, .slice none 0 0] 27)) = w3 at hW ⊢
    obtain ⟨q0, q1, qr, hb3, hs3⟩ := hW w3 rfl
    clear hW
    have y0 := q0.cell 0
    have y1 := q1.cell 0
    have y2 := q0.cell 1
    have y3 := q1.cell 1
    have hW4 : ∀ W, W = (w3.alloc (.map #[] 0)).alloc (.cells #[.map (some (w.heap.size + 3))] 69) → MapB (w.heap.size + 3) [] W ∧ Arr W (w.heap.size + 3 + 1) 69 [.map (some (w.heap.size + 3))] ∧ Below (w.heap.size + 3) w3 W ∧ W.heap.size = w.heap.size + 3 + 2 := by
      intro W hW
      subst hW
      rw [← hs3]
      exact ⟨(MapB.start w3).below ((Below.refl _ _).alloc (Nat.le_refl _) _), Arr.newAt (w3.alloc _) _ [_] _ (by simp), ((Below.refl _ _).alloc (Nat.le_refl _) _).alloc (by simp) _, by simp⟩
    go_upto_region 5 with fail
    generalize (w3.alloc (.map #[] 0)).alloc (.cells #[.map (some (w.heap.size + 3))] 69) = w4 at hW4 ⊢
    obtain ⟨hm4, qm4, hb4, hs4⟩ := hW4 w4 rfl
    rw [← hs3] at hb4
    obtain ⟨G, hG⟩ : ∃ G, G = w.heap.size + 3 := ⟨_, rfl⟩
    rw [← hG] at hm4 qm4 hs4 ⊢
    have hbA4 := hb3.trans (hb4.mono hb3.size)
    have q04 := q0.below hb4 q0.lt
    have q14 := q1.below hb4 q1.lt
    have qr4 := qr.below hb4 qr.lt
    have HGG := Lib.hid hG.symm
    have hz4 : w.heap.size ≤ w4.heap.size := hbA4.size
    have HC1 := Lib.hid (bclo_any (G + 1) G w.heap.size (.slice A n c) lp [] 1 w4 qm4 hm4 (HP.out w4 hbA4).tm_some (.inl rfl) (kr_of_lim HOK.out.1.2) HOK.out.1.2.co Cb.nil (by have := HLN.out; simp; omega) (by omega) hz4)
    have z0 := q04.cell 1
    clear y0 y1 y2 y3 q0 q1 qr hb3 hs3 hW4 hb4 hm4 hG hs4 hmm
    go_wp2_with fail
    refine HC1.out.mono ?_
    rintro e w5 ⟨rfl, hm5, ho5⟩
    have hG2 := HGG.out
    have q15 := ho5.at_ q14 (by omega)
    have qr5 := ho5.at_ qr4 (by omega)
    have qm5 := ho5.at_ qm4 (by omega)
    have hbA5 := hbA4.trans ho5.below
    have hz5 : w.heap.size ≤ w5.heap.size := hbA5.size
    rw [List.nil_append] at hm5
    have HC2 := Lib.hid (bclo_any (G + 1) G w.heap.size (.slice A2 n2 c2) lq (lp.map (tmB 1)) b w5 qm5 hm5 (HQ.out w5 hbA5).tm_some HB.out (kr_of_lim HOK.out.2.2) HOK.out.2.2.co (cb_tm HOK.out.1.2 (.inl rfl)) (by have := HLN.out; simp; omega) (by omega) hz5)
    have z1 := q15.cell 1
    clear z0 q04 q14 qr4 qm4 HC1 ho5 hm5 hbA4 hz4 hG2
    go_wp2_with fail
    refine HC2.out.mono ?_
    rintro e w6 ⟨rfl, hm6, ho6⟩
    have hG2 := HGG.out
    have qr6 := ho6.at_ qr5 (by omega)
    have qm6 := ho6.at_ qm5 (by omega)
    have hbA6 := hbA5.trans ho6.below
    have HGA := Lib.hid (gather_any G (lp.map (tmB 1) ++ lq.map (tmB b)) w6 hm6 ((cb_tm HOK.out.1.2 (.inl rfl)).append (cb_tm HOK.out.2.2 HB.out)) (fun t ht => by
      rcases List.mem_append.1 ht with h | h
      · exact kr_tm (kr_of_lim HOK.out.1.2) 1 t h
      · exact kr_tm (kr_of_lim HOK.out.2.2) b t h) (by have := HLN.out; simp; omega))
    have z2 := qm6.cell 0
    clear z1 q15 qr5 qm5 HC2 ho6 hm6 hbA5 hz5 hG2
    go_wp2_with fail
    refine HGA.out.mono ?_
    rintro e w7 ⟨v, r, rfl, hv, hr, hb7⟩
    have q7 := qr6.below hb7 qr6.lt
    have hb7' := hbA6.trans (hb7.mono hbA6.size)
    have HV := Lib.hid (fun u1 u2 => hv.box q7 u1 u2)
    have HR := Lib.hid (show CombB (fun x y => x + b * y) (some lp) (some lq) r from by
      have e : (fun x => cg2 (lp.map (tmB 1) ++ lq.map (tmB b)) x) = fun x => cg2 lp x + b * cg2 lq x := by
        funext x
        rw [cg2_append, cg2_tm, cg2_tm, Int.one_mul]
      show GthP (fun x => cg2 lp x + b * cg2 lq x) r
      rw [← e]
      exact hr)
    obtain ⟨b5, A5, n5, c5, rfl, j5, j6⟩ := hv.parts
    clear j5 j6 hv hr z2 qr6 qm6 HGA hbA6 hb7
    have x0 := q7.cell 0
    have x1 := q7.cell 1
    have f0 := q7.frozen 0
    have f1 := q7.frozen 1
    have hres := Lib.hid ((q7.set 0 (.bool b5)).set 1 (.slice A5 n5 c5))
    go_wp2_with fail
    refine bodyPost_ret (v := .agg #[.bool b5, .slice A5 n5 c5]) (results_c Tryz.results33 _ _ (w.heap.size + 2) 27 _ _ rfl hres.out Tryz.underlying27 rfl info_polyB) rfl ?_
    exact ⟨_, r, rfl, HV.out _ _, HR.out, (hb7'.setCell (p := ⟨w.heap.size + 2, 0, none⟩) (by simp) _).setCell (p := ⟨w.heap.size + 2, 1, none⟩) (by simp) _⟩
set_option maxHeartbeats 1000000 in
set_option maxRecDepth 100000 in
theorem bAdd_any (vp vq : Value) (p q : PolB) (w : World) (hp : PolyB w vp p) (hq : PolyB w vq q) (okp : okB2 p) (okq : okB2 q) (hlen : lenB p + lenB q ≤ 1000000) :
    Calls Tryz.prog 12 #[vp, vq] w (PlusR (1) p q w) := by
  have HC := Lib.hid (fun W (hb : Below w.heap.size w W) => bplus_any vp vq p q (1) W (hp.below hb) (hq.below hb) okp okq (by decide) hlen)
  obtain ⟨b1, A, n, c, rfl, j1, j2⟩ := hp.parts
  obtain ⟨b2, A2, n2, c2, rfl, j3, j4⟩ := hq.parts
  clear hp okp j1 j2 hq okq j3 j4
  have hW : ∀ W, W = (((w.alloc (.cells #[.bool b1, .slice A n c] 27)).alloc (.cells #[.bool b2, .slice A2 n2 c2] 27)).alloc (.cells #[.bool false, .slice none 0 0] 27)) → Arr W w.heap.size 27 [.bool b1, .slice A n c] ∧ Arr W (w.heap.size + 1) 27 [.bool b2, .slice A2 n2 c2] ∧ Arr W (w.heap.size + 2) 27 [.bool false, .slice none 0 0] ∧ Below w.heap.size w W := by
    intro W hW
    subst hW
    exact ⟨((Arr.new _ _ [_, _]).alloc _).alloc _, (Arr.newAt (w.alloc _) _ [_, _] _ (by simp)).alloc _, Arr.newAt ((w.alloc _).alloc _) _ [_, _] _ (by simp), (((Below.refl _ _).alloc (Nat.le_refl _) _).alloc (by simp) _).alloc (by simp <;> omega) _⟩
  go_enter Tryz.func12, Tryz.ntmps12
  go_upto_region 1 with fail
  generalize (((w.alloc (.cells #[.bool b1, .slice A n c] 27)).alloc (.cells #[.bool b2, .slice A2 n2 c2] 27)).alloc (.cells #[.bool false, .slice none 0 0] 27)) = w3 at hW ⊢
  obtain ⟨qp, qq, qr, hb3⟩ := hW w3 rfl
  clear hW
  have y0 := qp.cell 0
  have y1 := qp.cell 1
  have y2 := qq.cell 0
  have y3 := qq.cell 1
  have HC3 := Lib.hid (HC.out w3 hb3)
  clear HC
  go_wp2_with fail
  ((with_reducible refine HC3.out.mono ?_); skip)
  rintro e w4 ⟨v, r, rfl, hv, hr, hb4⟩
  have q4 := qr.below hb4 qr.lt
  have hb4' := hb3.trans (hb4.mono hb3.size)
  have HV := Lib.hid (fun u1 u2 => hv.box q4 u1 u2)
  have HR := Lib.hid hr
  obtain ⟨b5, A5, n5, c5, rfl, j5, j6⟩ := hv.parts
  clear j5 j6 hv hr y0 y1 qp qr HC3 y2 y3 qq
  have x0 := q4.cell 0
  have x1 := q4.cell 1
  have f0 := q4.frozen 0
  have f1 := q4.frozen 1
  have hres := Lib.hid ((q4.set 0 (.bool b5)).set 1 (.slice A5 n5 c5))
  go_wp2_with fail
  refine bodyPost_ret (v := .agg #[.bool b5, .slice A5 n5 c5]) (results_c Tryz.results12 _ _ (w.heap.size + 2) 27 _ _ rfl hres.out Tryz.underlying27 rfl info_polyB) rfl ?_
  exact ⟨_, r, rfl, HV.out _ _, HR.out, (hb4'.setCell (p := ⟨w.heap.size + 2, 0, none⟩) (by simp) _).setCell (p := ⟨w.heap.size + 2, 1, none⟩) (by simp) _⟩
set_option maxHeartbeats 1000000 in
set_option maxRecDepth 100000 in
theorem bSub_any (vp vq : Value) (p q : PolB) (w : World) (hp : PolyB w vp p) (hq : PolyB w vq q) (okp : okB2 p) (okq : okB2 q) (hlen : lenB p + lenB q ≤ 1000000) :
    Calls Tryz.prog 15 #[vp, vq] w (PlusR (-1) p q w) := by
  have HC := Lib.hid (fun W (hb : Below w.heap.size w W) => bplus_any vp vq p q (-1) W (hp.below hb) (hq.below hb) okp okq (by decide) hlen)
  obtain ⟨b1, A, n, c, rfl, j1, j2⟩ := hp.parts
  obtain ⟨b2, A2, n2, c2, rfl, j3, j4⟩ := hq.parts
  clear hp okp j1 j2 hq okq j3 j4
  have hW : ∀ W, W = (((w.alloc (.cells #[.bool b1, .slice A n c] 27)).alloc (.cells #[.bool b2, .slice A2 n2 c2] 27)).alloc (.cells #[.bool false, .slice none 0 0] 27)) → Arr W w.heap.size 27 [.bool b1, .slice A n c] ∧ Arr W (w.heap.size + 1) 27 [.bool b2, .slice A2 n2 c2] ∧ Arr W (w.heap.size + 2) 27 [.bool false, .slice none 0 0] ∧ Below w.heap.size w W := by
    intro W hW
    subst hW
    exact ⟨((Arr.new _ _ [_, _]).alloc _).alloc _, (Arr.newAt (w.alloc _) _ [_, _] _ (by simp)).alloc _, Arr.newAt ((w.alloc _).alloc _) _ [_, _] _ (by simp), (((Below.refl _ _).alloc (Nat.le_refl _) _).alloc (by simp) _).alloc (by simp <;> omega) _⟩
  go_enter Tryz.func15, Tryz.ntmps15
  go_upto_region 1 with fail
  generalize (((w.alloc (.cells #[.bool b1, .slice A n c] 27)).alloc (.cells #[.bool b2, .slice A2 n2 c2] 27)).alloc (.cells #[.bool false, .slice none 0 0] 27)) = w3 at hW ⊢
  obtain ⟨qp, qq, qr, hb3⟩ := hW w3 rfl
  clear hW
  have y0 := qp.cell 0
  have y1 := qp.cell 1
  have y2 := qq.cell 0
  have y3 := qq.cell 1
  have HC3 := Lib.hid (HC.out w3 hb3)
  clear HC
  go_wp2_with fail
  ((with_reducible refine HC3.out.mono ?_); skip)
  rintro e w4 ⟨v, r, rfl, hv, hr, hb4⟩
  have q4 := qr.below hb4 qr.lt
  have hb4' := hb3.trans (hb4.mono hb3.size)
  have HV := Lib.hid (fun u1 u2 => hv.box q4 u1 u2)
  have HR := Lib.hid hr
  obtain ⟨b5, A5, n5, c5, rfl, j5, j6⟩ := hv.parts
  clear j5 j6 hv hr y0 y1 qp qr HC3 y2 y3 qq
  have x0 := q4.cell 0
  have x1 := q4.cell 1
  have f0 := q4.frozen 0
  have f1 := q4.frozen 1
  have hres := Lib.hid ((q4.set 0 (.bool b5)).set 1 (.slice A5 n5 c5))
  go_wp2_with fail
  refine bodyPost_ret (v := .agg #[.bool b5, .slice A5 n5 c5]) (results_c Tryz.results15 _ _ (w.heap.size + 2) 27 _ _ rfl hres.out Tryz.underlying27 rfl info_polyB) rfl ?_
  exact ⟨_, r, rfl, HV.out _ _, HR.out, (hb4'.setCell (p := ⟨w.heap.size + 2, 0, none⟩) (by simp) _).setCell (p := ⟨w.heap.size + 2, 1, none⟩) (by simp) _⟩
/-- what Term returns -/
def trmB (c a z : Int) : PolB := if c = 0 then some [] else if wiB c 1125899906842624 = true ∧ wiB a 1048576 = true ∧ wiB z 1048576 = true then some [((a, z), c)] else none
def TrmR (c a z : Int) (w : World) (e : Ending) (w' : World) : Prop := ∃ v, e = .returned v ∧ PolyB w' v (trmB c a z) ∧ Below w.heap.size w w'
theorem tmB_one {w : World} {g : Nat} {a z c : Int} (h : Arr w g 65 [.int .i64 a, .int .i64 z, .int .i64 c]) : TmB w (.slice (some ⟨g, 0, none⟩) 1 1) [((a, z), c)] := by
  refine ⟨_, 1, rfl, fun k hk => ?_⟩
  have : k = 0 := by simp at hk; omega
  subst this
  exact ⟨g, 0, rfl, h.cell 0, h.cell 1, h.cell 2, _, _, h⟩
set_option maxHeartbeats 2000000 in
set_option maxRecDepth 100000 in
theorem bTerm_any (c a z : Int) (w : World) (hc : -9223372036854775808 ≤ c ∧ c ≤ 9223372036854775807) (ha : -9223372036854775808 ≤ a ∧ a ≤ 9223372036854775807) (hz : -9223372036854775808 ≤ z ∧ z ≤ 9223372036854775807) :
    Calls Tryz.prog 11 #[.int .i64 c, .int .i64 a, .int .i64 z] w (TrmR c a z w) := by
  have H1 := Lib.hid (fun W => bwithin_any c 1125899906842624 W (by omega) (by omega))
  have H2 := Lib.hid (fun W => bwithin_any a 1048576 W (by omega) (by omega))
  have H3 := Lib.hid (fun W => bwithin_any z 1048576 W (by omega) (by omega))
  have HT := Lib.hid (show ∀ P, P = trmB c a z → P = if c = 0 then some [] else if wiB c 1125899906842624 = true ∧ wiB a 1048576 = true ∧ wiB z 1048576 = true then some [((a, z), c)] else none from fun P h => h)
  unfold TrmR
  obtain ⟨P, hP⟩ : ∃ P, P = trmB c a z := ⟨_, rfl⟩
  rw [← hP]
  have HP := Lib.hid (HT.out P hP)
  clear hP HT
  have hW : ∀ W, W = w.alloc (.cells #[.bool false, .slice none 0 0] 27) → Arr W w.heap.size 27 [.bool false, .slice none 0 0] ∧ Below w.heap.size w W := by
    intro W hW
    subst hW
    exact ⟨Arr.new _ _ [_, _], (Below.refl _ _).alloc (Nat.le_refl _) _⟩
  generalize wiB c 1125899906842624 = B1 at *
  generalize wiB a 1048576 = B2 at *
  generalize wiB z 1048576 = B3 at *
  by_cases h0 : c = 0
  · subst h0
    have HE := Lib.hid (show P = some [] by rw [HP.out, if_pos rfl])
    go_enter Tryz.func11, Tryz.ntmps11
    go_upto_region 1 with fail
    generalize w.alloc (.cells #[.bool false, .slice none 0 0] 27) = w3 at hW ⊢
    obtain ⟨qr, hb3⟩ := hW w3 rfl
    have HR := Lib.hid (qr)
    have HB := Lib.hid hb3
    have r0 := qr.cell 0
    have r1 := qr.cell 1
    have f0 := qr.frozen 0
    have f1 := qr.frozen 1
    have HS := Lib.hid ((qr.set 0 (.bool false)).set 1 (.slice none 0 0))
    clear hW qr hb3
    go_wp2_with fail
    refine bodyPost_ret (v := .agg #[.bool false, .slice none 0 0]) (results_c Tryz.results11 _ _ w.heap.size 27 _ _ rfl HS.out Tryz.underlying27 rfl info_polyB) rfl ?_
    exact ⟨_, rfl, by rw [HE.out]; exact PolyB.zero _, (HB.out.setCell (p := ⟨w.heap.size, 0, none⟩) (Nat.le_refl _) _).setCell (p := ⟨w.heap.size, 1, none⟩) (Nat.le_refl _) _⟩
  · have n0 : (c == 0) = false := beq_eq_false_iff_ne.2 h0
    have HE := Lib.hid (HP.out.trans (if_neg h0))
    clear HP h0
    go_enter Tryz.func11, Tryz.ntmps11
    go_upto_region 1 with fail
    generalize w.alloc (.cells #[.bool false, .slice none 0 0] 27) = w3 at hW ⊢
    obtain ⟨qr, hb3⟩ := hW w3 rfl
    have HR := Lib.hid (qr)
    have HB := Lib.hid hb3
    have r0 := qr.cell 0
    have r1 := qr.cell 1
    have f0 := qr.frozen 0
    have f1 := qr.frozen 1
    have HS := Lib.hid (res_big qr hb3 (Nat.le_refl _))
    have bad : (B1 = false ∨ B2 = false ∨ B3 = false) → P = none := fun h => by
      rw [HE.out, if_neg]
      rintro ⟨k1, k2, k3⟩
      subst k1 k2 k3
      simp at h
    have HBD := Lib.hid bad
    clear hW qr hb3 bad
    cases B1 with
    | false =>
      go_wp2_with fail
      refine (H1.out _).mono ?_
      rintro e w4 ⟨rfl, rfl⟩
      go_wp2_with fail
      refine bodyPost_ret (v := .agg #[.bool true, .slice none 0 0]) (results_c Tryz.results11 _ _ w.heap.size 27 _ _ rfl HS.out.1 Tryz.underlying27 rfl info_polyB) rfl ?_
      exact ⟨_, rfl, by rw [HBD.out (by simp)]; exact PolyB.big _, HS.out.2⟩
    | true =>
      cases B2 with
      | false =>
        go_wp2_with fail
        refine (H1.out _).mono ?_
        rintro e w4 ⟨rfl, rfl⟩
        go_wp2_with fail
        refine (H2.out _).mono ?_
        rintro e w4 ⟨rfl, rfl⟩
        go_wp2_with fail
        refine bodyPost_ret (v := .agg #[.bool true, .slice none 0 0]) (results_c Tryz.results11 _ _ w.heap.size 27 _ _ rfl HS.out.1 Tryz.underlying27 rfl info_polyB) rfl ?_
        exact ⟨_, rfl, by rw [HBD.out (by simp)]; exact PolyB.big _, HS.out.2⟩
      | true =>
        cases B3 with
        | false =>
          go_wp2_with fail
          refine (H1.out _).mono ?_
          rintro e w4 ⟨rfl, rfl⟩
          go_wp2_with fail
          refine (H2.out _).mono ?_
          rintro e w4 ⟨rfl, rfl⟩
          go_wp2_with fail
          refine (H3.out _).mono ?_
          rintro e w4 ⟨rfl, rfl⟩
          go_wp2_with fail
          refine bodyPost_ret (v := .agg #[.bool true, .slice none 0 0]) (results_c Tryz.results11 _ _ w.heap.size 27 _ _ rfl HS.out.1 Tryz.underlying27 rfl info_polyB) rfl ?_
          exact ⟨_, rfl, by rw [HBD.out (by simp)]; exact PolyB.big _, HS.out.2⟩
        | true =>
          have HPP := Lib.hid (show P = some [((a, z), c)] by rw [HE.out, if_pos ⟨rfl, rfl, rfl⟩])
          have hlt := HR.out.lt
          go_wp2_with fail
          refine (H1.out _).mono ?_
          rintro e w4 ⟨rfl, rfl⟩
          go_wp2_with fail
          refine (H2.out _).mono ?_
          rintro e w4 ⟨rfl, rfl⟩
          go_wp2_with fail
          refine (H3.out _).mono ?_
          rintro e w4 ⟨rfl, rfl⟩
          go_wp2_with fail
          have h0 := (HR.out.set 0 (.bool false)).set 1 (.slice (some ⟨w3.heap.size, 0, none⟩) 1 1)
          have h1 := h0.alloc (.cells #[.int .i64 a, .int .i64 z, .int .i64 c] 65)
          have hb := ((HB.out.setCell (p := ⟨w.heap.size, 0, none⟩) (Nat.le_refl _) (.bool false)).setCell (p := ⟨w.heap.size, 1, none⟩) (Nat.le_refl _) (.slice (some ⟨w3.heap.size, 0, none⟩) 1 1))
          have h2 := hb.alloc hb.size (.cells #[.int .i64 a, .int .i64 z, .int .i64 c] 65)
          have h3 := Arr.newAt ((w3.setCell ⟨w.heap.size, 0, none⟩ (.bool false)).setCell ⟨w.heap.size, 1, none⟩ (.slice (some ⟨w3.heap.size, 0, none⟩) 1 1)) 65 [.int .i64 a, .int .i64 z, .int .i64 c] w3.heap.size (by simp)
          refine bodyPost_ret (v := .agg #[.bool false, .slice (some ⟨w3.heap.size, 0, none⟩) 1 1]) (results_c Tryz.results11 _ _ w.heap.size 27 _ _ rfl h1 Tryz.underlying27 rfl info_polyB) rfl ?_
          exact ⟨_, rfl, by rw [HPP.out]; exact PolyB.of_tm (tmB_one h3), h2⟩
end Go.Proofs.YtbfggncmjdhapaaGreatDoor

namespace Go.Proofs.YtbfggncmjdhapaaGreatDoor
open Go.RowKit
set_option linter.unusedVariables false

theorem take_snocB {l : List T2} {k : Nat} (h : k < l.length) : l.take (k + 1) = l.take k ++ [l[k]] := by
  rw [List.take_add_one, List.getElem?_eq_getElem h]; rfl
def eqTB (s t : T2) : Bool := decide (s = t)
theorem neq_termB (a b u c d v : Int) (w : World) : (binOp .neq 65 (.agg #[.int .i64 a, .int .i64 b, .int .i64 u]) (.agg #[.int .i64 c, .int .i64 d, .int .i64 v])).run Tryz.prog w = .ok (.bool (!eqTB ((a, b), u) ((c, d), v))) w := by
  have u3 := Tryz.underlying3
  have a3 := Tryz.isAgg3
  have z3 := Tryz.sizeOf3
  have hS : Tryz.prog.underlying 65 = some (.struct (Tryz.prog.fieldsOf 65)) := by kernel_rfl
  have hp : Tryz.prog.stoodInHeld 65 = false := by kernel_rfl
  rw [run_neq_struct, show (10000 : Nat) = 9999 + 1 from rfl, run_equalIn_agg w 9999 65 _ _ hS hp]
  simp only [Program.fieldsOf, Tryz.underlying65]
  go_simp
  unfold eqTB
  by_cases h1 : a = c <;> by_cases h2 : b = d <;> by_cases h3 : u = v <;> simp [h1, h2, h3]
theorem guard_termB (op : BinOp) (x y : Operand) (xs ys : Array Value) (w : World) : (eqGuard op 65 x y (.agg xs) (.agg ys)).run Tryz.prog w = .ok () w :=
  run_eqGuard_agg w op _ x y xs ys (by kernel_rfl)
def eqLB (l m : List (T2)) : Bool := decide (l = m)
theorem eqLB_ne {l m : List (T2)} {k : Nat} (h1 : k < l.length) (h2 : k < m.length) (h : eqTB l[k] m[k] = false) : eqLB l m = false := by
  unfold eqLB
  refine decide_eq_false fun e => ?_
  subst e
  unfold eqTB at h
  simp at h
set_option maxHeartbeats 2000000 in
set_option maxRecDepth 100000 in
theorem slEqualB_any (A A2 : Option Addr) (n n2 c c2 : Nat) (l m : List (T2)) (w : World) (h : TmB w (.slice A n c) l) (k : TmB w (.slice A2 n2 c2) m) (hn : n = l.length) (hn2 : n2 = m.length) (hl : l.length ≤ 4611686018427387904) (hm : m.length ≤ 4611686018427387904) :
    Calls Tryz.prog 34 #[.slice A n c, .slice A2 n2 c2] w fun e w' => e = .returned (.bool (eqLB l m)) ∧ ∃ q, w' = w.drewN q := by
  subst hn hn2
  obtain ⟨V, hV⟩ : ∃ V, V = eqLB l m := ⟨_, rfl⟩
  rw [← hV]
  have HV := Lib.hid hV
  clear hV
  have HL := Lib.hid h
  have HM := Lib.hid k
  clear h k
  by_cases hlm : l.length = m.length
  · have HLM := Lib.hid hlm
    have z0 : ((l.length : Int) != (m.length : Int)) = false := by rw [hlm]; simp
    clear hlm
    go_enter Tryz.func34, Tryz.ntmps34
    go_wp2_with fail
    go_loopg [13] l.length (fun gk s13 wr => ∃ k q : Nat, k ≤ l.length ∧ gk = l.length - k ∧ s13 = .int .i64 (k : Int) ∧ wr = w.drewN q ∧ Hid (l.take k = m.take k))
    case atStart => exact ⟨0, 0, Nat.zero_le _, rfl, rfl, rfl, Lib.hid rfl⟩
    case round =>
      obtain ⟨k, q, hk, rfl, rfl, rfl, HK⟩ := hrel
      by_cases hlt : k < l.length
      · have hlt2 : k < m.length := by have := HLM.out; omega
        have z1 : (k : Int) < (l.length : Int) := by omega
        have z2 : (k : Int) < (m.length : Int) := by omega
        obtain ⟨b, o, rfl, _, y0, y1, y2⟩ := HL.out.at_ hlt
        obtain ⟨b2, o2, rfl, _, x0, x1, x2⟩ := HM.out.at_ hlt2
        have HN := Lib.hid (fun h => eqLB_ne hlt hlt2 h)
        have HY := Lib.hid (fun (h : eqTB l[k] m[k] = true) => (show l.take (k + 1) = m.take (k + 1) from by
          rw [take_snocB hlt, take_snocB hlt2, HK.out, of_decide_eq_true h]))
        clear HK
        generalize l[k] = s at *
        generalize m[k] = t at *
        obtain ⟨⟨s1, s2⟩, s3⟩ := s
        obtain ⟨⟨t1, t2⟩, t3⟩ := t
        have hne := fun (W : World) => neq_termB s1 s2 s3 t1 t2 t3 W
        have hgd := fun (op : BinOp) (x y : Operand) (W : World) => guard_termB op x y #[.int .i64 s1, .int .i64 s2, .int .i64 s3] #[.int .i64 t1, .int .i64 t2, .int .i64 t3] W
        cases hE : eqTB ((s1, s2), s3) ((t1, t2), t3) with
        | true =>
          rw [hE] at hne
          have HK2 := Lib.hid (HY.out hE)
          clear HY HN hE
          go_wp2_with fail
          go_quiet (fail)
          go_wp2_with fail
          go_roundg (l.length - (k + 1))
          case measure => omega
          case rel => exact ⟨k + 1, q + nq, by omega, rfl, by go_num, rfl, HK2⟩
        | false =>
          rw [hE] at hne
          have HF := Lib.hid (HN.out hE)
          clear HY HN hE
          go_wp2_with fail
          go_quiet (fail)
          go_wp2_with fail
          go_ret
          exact ⟨by rw [HV.out, HF.out]; rfl, q + nq, World.drewN_drewN _ _ _⟩
      · have z1 : ¬ (k : Int) < (l.length : Int) := by omega
        have HT := Lib.hid (show V = true from by
          rw [HV.out]
          refine decide_eq_true ?_
          have h1 := HK.out
          obtain rfl : k = l.length := by omega
          rw [List.take_length, HLM.out, List.take_length] at h1
          exact h1)
        clear HK
        go_wp2_with fail
        go_ret
        exact ⟨by rw [HT.out]; rfl, q, rfl⟩
  · have z0 : ((l.length : Int) != (m.length : Int)) = true := by simp; omega
    have HF := Lib.hid (show V = false from by rw [HV.out]; exact decide_eq_false fun e => hlm (by rw [e]))
    clear hlm
    go_enter Tryz.func34, Tryz.ntmps34
    go_wp2_with fail
    go_ret
    exact ⟨by rw [HF.out]; rfl, 0, rfl⟩
def eqB (p q : PolB) : Bool := decide (p = q)
set_option maxHeartbeats 2000000 in
set_option maxRecDepth 100000 in
theorem bEqual_any (vp vq : Value) (p q : PolB) (w : World) (hp : PolyB w vp p) (hq : PolyB w vq q) (hlp : (p.getD []).length ≤ 4611686018427387904) (hlq : (q.getD []).length ≤ 4611686018427387904) :
    Calls Tryz.prog 13 #[vp, vq] w fun e w' => e = .returned (.bool (eqB p q)) ∧ Below w.heap.size w w' := by
  obtain ⟨A, c, rfl, h1⟩ := hp
  obtain ⟨A2, c2, rfl, h2⟩ := hq
  have HS := Lib.hid (fun (W : World) (hb : Below w.heap.size w W) => slEqualB_any A A2 _ _ c c2 _ _ W (h1.below hb) (h2.below hb) rfl rfl hlp hlq)
  have hE : eqB p q = (p.isNone == q.isNone && eqLB (p.getD []) (q.getD [])) := by
    unfold eqB eqLB
    cases p <;> cases q <;> simp
  rw [hE]
  clear hE h1 h2 hlp hlq
  generalize p.isNone = b1 at *
  generalize q.isNone = b2 at *
  generalize eqLB (p.getD []) (q.getD []) = E at *
  generalize (p.getD []).length = n at *
  generalize (q.getD []).length = n2 at *
  have hW : ∀ W, W = ((w.alloc (.cells #[.bool b1, .slice A n c] 27)).alloc (.cells #[.bool b2, .slice A2 n2 c2] 27)) → Arr W w.heap.size 27 [.bool b1, .slice A n c] ∧ Arr W (w.heap.size + 1) 27 [.bool b2, .slice A2 n2 c2] ∧ Below w.heap.size w W := by
    intro W hW
    subst hW
    exact ⟨(Arr.new _ _ [_, _]).alloc _, Arr.newAt (w.alloc _) _ [_, _] _ (by simp), ((Below.refl _ _).alloc (Nat.le_refl _) _).alloc (by simp) _⟩
  go_enter Tryz.func13, Tryz.ntmps13
  go_upto_region 1 with fail
  generalize ((w.alloc (.cells #[.bool b1, .slice A n c] 27)).alloc (.cells #[.bool b2, .slice A2 n2 c2] 27)) = w3 at hW ⊢
  obtain ⟨qp, qq, hb3⟩ := hW w3 rfl
  clear hW
  have y0 := qp.cell 0
  have y1 := qp.cell 1
  have x0 := qq.cell 0
  have x1 := qq.cell 1
  have HC := Lib.hid (HS.out w3 hb3)
  clear HS qp qq
  by_cases hb : b1 = b2
  · subst hb
    have z : (b1 == b1) = true := by simp
    go_wp2_with fail
    refine HC.out.mono ?_
    rintro e w4 ⟨rfl, q4, rfl⟩
    go_wp2_with fail
    go_ret
    exact ⟨by simp, bdrewN hb3 q4⟩
  · have z : (b1 == b2) = false := by simp [hb]
    go_wp2_with fail
    go_ret
    exact ⟨by rw [z]; rfl, hb3⟩
theorem bBig_any (vp : Value) (p : PolB) (w : World) (hp : PolyB w vp p) : Calls Tryz.prog 16 #[vp] w fun e w' => e = .returned (.bool p.isNone) ∧ Below w.heap.size w w' := by
  obtain ⟨b, A, n, c, rfl, j1, j2⟩ := hp.parts
  rw [← j1]
  have hb : Below w.heap.size w (w.alloc (.cells #[.bool b, .slice A n c] 27)) := (Below.refl _ _).alloc (Nat.le_refl _) _
  clear j1 j2 hp
  go_enter Tryz.func16, Tryz.ntmps16
  go_wp2_with fail
  go_ret
  exact ⟨rfl, hb⟩
end Go.Proofs.YtbfggncmjdhapaaGreatDoor
