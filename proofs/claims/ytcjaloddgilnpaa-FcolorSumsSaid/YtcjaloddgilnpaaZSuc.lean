/- connect.Union, connect.Sum, fcolor.Count: for every input. -/
/- connect.Sum: for every input. -/
import Derived.Test.YtcjaloddgilnpaaZCro
import Derived.Test.YtcjaloddgilnpaaZAcp
namespace Go.Proofs.Ytcjaloddgilnpaa
open Go.RowKit
set_option linter.unusedVariables false

/-- a diagram and an error number; where it is OK, P holds -/
def DiaR (P : List Int → List Int → Int → Prop) (e : Ending) (w : World) : Prop := ∃ A1 c1 A2 c2 S M L k, e = .returned (.tuple #[.agg #[.slice A1 (S : List Int).length c1, .slice A2 (M : List Int).length c2, .int .i64 L], .int .i64 k]) ∧ Ints w (.slice A1 S.length c1) S ∧ Ints w (.slice A2 M.length c2) M ∧ (k = 0 → P S M L)
theorem DiaR.err {P : List Int → List Int → Int → Prop} {w : World} {k : Int} (hk : k ≠ 0) : DiaR P (.returned (.tuple #[.agg #[.slice none 0 0, .slice none 0 0, .int .i64 0], .int .i64 k])) w := ⟨none, 0, none, 0, [], [], 0, k, rfl, Ints.nil w, Ints.nil w, fun e => absurd e hk⟩
theorem DiaR.good {P : List Int → List Int → Int → Prop} {w : World} {v1 v2 : Value} {S M : List Int} {L : Int} (h1 : Ints w v1 S) (h2 : Ints w v2 M) (h : P S M L) : DiaR P (.returned (.tuple #[.agg #[v1, v2, .int .i64 L], .int .i64 0])) w := by
  have g1 := h1
  have g2 := h2
  obtain ⟨A1, c1, rfl, _, _⟩ := h1
  obtain ⟨A2, c2, rfl, _, _⟩ := h2
  exact ⟨A1, c1, A2, c2, S, M, L, 0, rfl, g1, g2, fun _ => h⟩
set_option maxHeartbeats 1000000 in
theorem beside_full (vsa vma vsb vmb : Value) (Sa Ma Sb Mb : List Int) (La Lb : Int) (L : Int) (w : World) (hSa : Ints w vsa Sa) (hMa : Ints w vma Ma) (hSb : Ints w vsb Sb) (hMb : Ints w vmb Mb) (hn : Sa.length + Sb.length ≤ 64) (hL : 64 < L) :
    Calls Try.prog 58 #[.agg #[vsa, vma, .int .i64 La], .agg #[vsb, vmb, .int .i64 Lb], .int .i64 L] w fun e w' => e = .returned (.tuple #[.agg #[.slice none 0 0, .slice none 0 0, .int .i64 0], .int .i64 5]) ∧ Below w.heap.size w w' := by
  have hW : ∀ W, W = (((w.alloc (.cells #[vsa, vma, .int .i64 La] 24)).alloc (.cells #[vsb, vmb, .int .i64 Lb] 24)).alloc (.cells #[.slice none 0 0, .slice none 0 0, .int .i64 0] 24)) → Arr W w.heap.size 24 [vsa, vma, .int .i64 La] ∧ Arr W (w.heap.size + 1) 24 [vsb, vmb, .int .i64 Lb] ∧ Arr W (w.heap.size + 2) 24 [.slice none 0 0, .slice none 0 0, .int .i64 0] ∧ Below w.heap.size w W ∧ W.heap.size = w.heap.size + 3 := by
    intro W hW
    subst hW
    exact ⟨((Arr.new _ _ [_, _, _]).alloc _).alloc _, (Arr.newAt (w.alloc _) _ [_, _, _] _ (by simp)).alloc _, Arr.newAt ((w.alloc _).alloc _) _ [_, _, _] _ (by simp), (((Below.refl _ _).alloc (Nat.le_refl _) _).alloc (by simp) _).alloc (by simp <;> omega) _, by simp⟩
  obtain ⟨A, c, rfl, hc, hx⟩ := hSa
  obtain ⟨A2, c2, rfl, hc2, hx2⟩ := hMa
  obtain ⟨A3, c3, rfl, hc3, hx3⟩ := hSb
  obtain ⟨A4, c4, rfl, hc4, hx4⟩ := hMb
  clear hx hx2 hx3 hx4
  have z1 : ¬ ((64 : Int) < (Sa.length : Int) + (Sb.length : Int)) := by omega
  go_enter Try.func58, Try.ntmps58
  go_upto_region 1 with fail
  generalize (((w.alloc (.cells #[.slice A Sa.length c, .slice A2 Ma.length c2, .int .i64 La] 24)).alloc (.cells #[.slice A3 Sb.length c3, .slice A4 Mb.length c4, .int .i64 Lb] 24)).alloc (.cells #[.slice none 0 0, .slice none 0 0, .int .i64 0] 24)) = w3 at hW ⊢
  obtain ⟨qa, qb, qr, hb3, hs3⟩ := hW w3 rfl
  clear hW
  have y0 := qa.cell 0
  have y1 := qb.cell 0
  have x0 := qr.cell 0
  have x1 := qr.cell 1
  have x2 := qr.cell 2
  have f0 := qr.frozen 0
  have f1 := qr.frozen 1
  have f2 := qr.frozen 2
  have hres := Lib.hid (((qr.set 0 (.slice none 0 0)).set 1 (.slice none 0 0)).set 2 (.int .i64 0))
  go_wp2_with fail
  refine bodyPost_ret (v := .tuple #[.agg #[.slice none 0 0, .slice none 0 0, .int .i64 0], .int .i64 5]) (results_ct Try.results58 _ _ (w.heap.size + 2) 24 _ _ rfl hres.out Try.underlying24 rfl info_diag) rfl ?_
  exact ⟨rfl, ((hb3.setCell (p := ⟨w.heap.size + 2, 0, none⟩) (by simp) _).setCell (p := ⟨w.heap.size + 2, 1, none⟩) (by simp) _).setCell (p := ⟨w.heap.size + 2, 2, none⟩) (by simp) _⟩
set_option maxHeartbeats 4000000 in
set_option maxRecDepth 100000 in
theorem Union_all (vsa vma vsb vmb : Value) (Sa Ma Sb Mb : List Int) (La Lb : Int) (w : World) (hSa : Ints w vsa Sa) (hMa : Ints w vma Ma) (hSb : Ints w vsb Sb) (hMb : Ints w vmb Mb) (hn9 : 64 < Sa.length ∨ 64 < Sb.length ∨ Sa.length + Sb.length ≤ 9) :
    Calls Try.prog 31 #[.agg #[vsa, vma, .int .i64 La], .agg #[vsb, vmb, .int .i64 Lb]] w fun e w' => DiaR (fun S M L => valB Sa Ma La = true ∧ valB Sb Mb Lb = true ∧ S = Sa ++ Sb ∧ M = uM Ma Mb ∧ L = La + Lb) e w' ∧ Below w.heap.size w w' := by
  have hW : ∀ W, W = (((w.alloc (.cells #[vsa, vma, .int .i64 La] 24)).alloc (.cells #[vsb, vmb, .int .i64 Lb] 24)).alloc (.cells #[.slice none 0 0, .slice none 0 0, .int .i64 0] 24)) → Arr W w.heap.size 24 [vsa, vma, .int .i64 La] ∧ Arr W (w.heap.size + 1) 24 [vsb, vmb, .int .i64 Lb] ∧ Arr W (w.heap.size + 2) 24 [.slice none 0 0, .slice none 0 0, .int .i64 0] ∧ Below w.heap.size w W ∧ W.heap.size = w.heap.size + 3 := by
    intro W hW
    subst hW
    exact ⟨((Arr.new _ _ [_, _, _]).alloc _).alloc _, (Arr.newAt (w.alloc _) _ [_, _, _] _ (by simp)).alloc _, Arr.newAt ((w.alloc _).alloc _) _ [_, _, _] _ (by simp), (((Below.refl _ _).alloc (Nat.le_refl _) _).alloc (by simp) _).alloc (by simp <;> omega) _, by simp⟩
  have HVA := Lib.hid (fun W (hb : Below w.heap.size w W) => valid_code vsa vma Sa Ma La W (hSa.below hb) (hMa.below hb))
  have HVB := Lib.hid (fun W (hb : Below w.heap.size w W) => valid_code vsb vmb Sb Mb Lb W (hSb.below hb) (hMb.below hb))
  have HSa := Lib.hid (fun W (hb : Below w.heap.size w W) => hSa.below hb)
  have HMa := Lib.hid (fun W (hb : Below w.heap.size w W) => hMa.below hb)
  have HSb := Lib.hid (fun W (hb : Below w.heap.size w W) => hSb.below hb)
  have HMb := Lib.hid (fun W (hb : Below w.heap.size w W) => hMb.below hb)
  obtain ⟨A, c, rfl, hc, hx⟩ := hSa
  obtain ⟨A2, c2, rfl, hc2, hx2⟩ := hMa
  obtain ⟨A3, c3, rfl, hc3, hx3⟩ := hSb
  obtain ⟨A4, c4, rfl, hc4, hx4⟩ := hMb
  clear hx hx2 hx3 hx4
  go_enter Try.func31, Try.ntmps31
  go_upto_region 1 with fail
  generalize (((w.alloc (.cells #[.slice A Sa.length c, .slice A2 Ma.length c2, .int .i64 La] 24)).alloc (.cells #[.slice A3 Sb.length c3, .slice A4 Mb.length c4, .int .i64 Lb] 24)).alloc (.cells #[.slice none 0 0, .slice none 0 0, .int .i64 0] 24)) = w3 at hW ⊢
  obtain ⟨qa, qb, qr, hb3, hs3⟩ := hW w3 rfl
  clear hW
  have y0 := qa.cell 0
  have y1 := qa.cell 1
  have y2 := qa.cell 2
  cases hva : valB Sa Ma La with
  | false =>
    rw [hva] at HVA
    clear hva
    go_upto_region 2 with (go_at_call 38; refine (HVA.out _ hb3).mono ?_; rintro e w5 ⟨rfl, hb5⟩)
    have qr5 := qr.below hb5 qr.lt
    have hb5' := hb3.trans (hb5.mono hb3.size)
    clear y0 y1 y2
    have x0 := qr5.cell 0
    have f0 := qr5.frozen 0
    have x1 := qr5.cell 1
    have f1 := qr5.frozen 1
    have x2 := qr5.cell 2
    have f2 := qr5.frozen 2
    have hres := Lib.hid (((qr5.set 0 (.slice none 0 0)).set 1 (.slice none 0 0)).set 2 (.int .i64 0))
    go_wp2_with fail
    refine bodyPost_ret (v := .tuple #[.agg #[.slice none 0 0, .slice none 0 0, .int .i64 0], .int .i64 1]) (results_ct Try.results31 _ _ (w.heap.size + 2) 24 _ _ rfl hres.out Try.underlying24 rfl info_diag) rfl ?_
    exact ⟨DiaR.err (by decide), ((hb5'.setCell (p := ⟨w.heap.size + 2, 0, none⟩) (by simp) _).setCell (p := ⟨w.heap.size + 2, 1, none⟩) (by simp) _).setCell (p := ⟨w.heap.size + 2, 2, none⟩) (by simp) _⟩
  | true =>
    rw [hva] at HVA
    have ka := valB_ok hva
    have HV1 := Lib.hid hva
    clear hva
    go_wp2_with fail
    refine (HVA.out _ hb3).mono ?_
    rintro e w5 ⟨rfl, hb5⟩
    have qa5 := qa.below hb5 qa.lt
    have qb5 := qb.below hb5 qb.lt
    have qr5 := qr.below hb5 qr.lt
    have hb5' := hb3.trans (hb5.mono hb3.size)
    clear y0 y1 y2 qa qb qr hb5
    have y0 := qb5.cell 0
    have y1 := qb5.cell 1
    have y2 := qb5.cell 2
    cases hvb : valB Sb Mb Lb with
    | false =>
      rw [hvb] at HVB
      clear hvb
      go_upto_region 2 with (go_at_call 38; refine (HVB.out _ hb5').mono ?_; rintro e w6 ⟨rfl, hb6⟩)
      have qr6 := qr5.below hb6 qr5.lt
      have hb6' := hb5'.trans (hb6.mono hb5'.size)
      clear y0 y1 y2
      have x0 := qr6.cell 0
      have f0 := qr6.frozen 0
      have x1 := qr6.cell 1
      have f1 := qr6.frozen 1
      have x2 := qr6.cell 2
      have f2 := qr6.frozen 2
      have hres := Lib.hid (((qr6.set 0 (.slice none 0 0)).set 1 (.slice none 0 0)).set 2 (.int .i64 0))
      go_wp2_with fail
      refine bodyPost_ret (v := .tuple #[.agg #[.slice none 0 0, .slice none 0 0, .int .i64 0], .int .i64 1]) (results_ct Try.results31 _ _ (w.heap.size + 2) 24 _ _ rfl hres.out Try.underlying24 rfl info_diag) rfl ?_
      exact ⟨DiaR.err (by decide), ((hb6'.setCell (p := ⟨w.heap.size + 2, 0, none⟩) (by simp) _).setCell (p := ⟨w.heap.size + 2, 1, none⟩) (by simp) _).setCell (p := ⟨w.heap.size + 2, 2, none⟩) (by simp) _⟩
    | true =>
      rw [hvb] at HVB
      have kb := valB_ok hvb
      have HV2 := Lib.hid hvb
      clear hvb
      have hn : Sa.length + Sb.length ≤ 9 := by have := ka.n; have := kb.n; omega
      clear hn9
      have l1 := ka.l0
      have l2 := ka.l1
      have l3 := kb.l0
      have l4 := kb.l1
      have hma := Lib.hid ka.m
      have hmb := Lib.hid kb.m
      have HMV := Lib.hid (fun k (h : k < Mb.length) => (⟨kb.pos k h, by rw [mt_cast h (kb.pos k h)]; have := kb.lt k h; have := kb.m; omega⟩ : 0 ≤ Mb[k] ∧ Mb[k] ≤ 1000))
      clear ka kb
      go_upto_region 3 with (go_at_call 38; refine (HVB.out _ hb5').mono ?_; rintro e w6 ⟨rfl, hb6⟩)
      have qa6 := qa5.below hb6 qa5.lt
      have qb6 := qb5.below hb6 qb5.lt
      have qr6 := qr5.below hb6 qr5.lt
      have hb6' := hb5'.trans (hb6.mono hb5'.size)
      have hs6 := Lib.hid (show w.heap.size + 3 ≤ w6.heap.size by have := hb5'.size; have := hb6.size; have := qr5.lt; omega)
      clear y0 y1 y2 qa5 qb5 qr5 hb5' hb6
      have y0 := qa6.cell 0
      have y1 := qa6.cell 1
      have y2 := qa6.cell 2
      have y3 := qb6.cell 0
      have y4 := qb6.cell 1
      have y5 := qb6.cell 2
      by_cases hL : 64 < La + Lb
      · have HB := Lib.hid (beside_full _ _ _ _ Sa Ma Sb Mb La Lb (La + Lb) w6 (HSa.out _ hb6') (HMa.out _ hb6') (HSb.out _ hb6') (HMb.out _ hb6') (by omega) hL)
        clear hL
        go_wp2_with fail
        refine HB.out.mono ?_
        rintro e w7 ⟨rfl, hb7⟩
        have qr7 := qr6.below hb7 qr6.lt
        have hb7' := hb6'.trans (hb7.mono hb6'.size)
        clear y0 y1 y2 y3 y4 y5 HB
        have x0 := qr7.cell 0
        have f0 := qr7.frozen 0
        have x1 := qr7.cell 1
        have f1 := qr7.frozen 1
        have x2 := qr7.cell 2
        have f2 := qr7.frozen 2
        have hres := Lib.hid (((qr7.set 0 (.slice none 0 0)).set 1 (.slice none 0 0)).set 2 (.int .i64 0))
        go_wp2_with fail
        refine bodyPost_ret (v := .tuple #[.agg #[.slice none 0 0, .slice none 0 0, .int .i64 0], .int .i64 5]) (results_ct Try.results31 _ _ (w.heap.size + 2) 24 _ _ rfl hres.out Try.underlying24 rfl info_diag) rfl ?_
        exact ⟨DiaR.err (by decide), ((hb7'.setCell (p := ⟨w.heap.size + 2, 0, none⟩) (by simp) _).setCell (p := ⟨w.heap.size + 2, 1, none⟩) (by simp) _).setCell (p := ⟨w.heap.size + 2, 2, none⟩) (by simp) _⟩
      · have HB := Lib.hid (beside_new _ _ _ _ Sa Ma Sb Mb (La + Lb) w6 (HSa.out _ hb6') (HMa.out _ hb6') (HSb.out _ hb6') (HMb.out _ hb6') La Lb (by omega) (by omega) (by have := hma.out; omega) (by have := hmb.out; omega) (by omega) (by omega) HMV.out (Sa ++ Sb) (Lib.hid rfl))
        clear hL
        go_wp2_with fail
        refine HB.out.mono ?_
        rintro e w7 ⟨v1, v2, rfl, o1, o2, o3, hb7⟩
        have qr7 := qr6.below hb7 qr6.lt
        have hb7' := hb6'.trans (hb7.mono hb6'.size)
        have g1 := o1.apart qr7 (by decide)
        have g2 := o2.apart qr7 (by decide)
        have I1 := Lib.hid (fun (u1 u2 u3 : Value) => (((o1.far (j := 0) g1 u1).far (j := 1) g1 u2).far (j := 2) g1 u3).ints)
        have I2 := Lib.hid (fun (u1 u2 u3 : Value) => (((o2.far (j := 0) g2 u1).far (j := 1) g2 u2).far (j := 2) g2 u3).ints)
        obtain ⟨B1, n1, rfl⟩ := o1.form
        obtain ⟨B2, n2, rfl⟩ := o2.form
        clear y0 y1 y2 y3 y4 y5 HB o1 o2 o3 g1 g2
        generalize hSS : Sa ++ Sb = SS at *
        generalize hMM : uM Ma Mb = MM at *
        have HSS := Lib.hid hSS
        have HMM := Lib.hid hMM
        clear hSS hMM
        have x0 := qr7.cell 0
        have f0 := qr7.frozen 0
        have x1 := qr7.cell 1
        have f1 := qr7.frozen 1
        have x2 := qr7.cell 2
        have f2 := qr7.frozen 2
        have hres := Lib.hid (((qr7.set 0 (.slice B1 SS.length n1)).set 1 (.slice B2 MM.length n2)).set 2 (.int .i64 (La + Lb)))
        go_wp2_with fail
        refine bodyPost_ret (v := .tuple #[.agg #[.slice B1 SS.length n1, .slice B2 MM.length n2, .int .i64 (La + Lb)], .int .i64 0]) (results_ct Try.results31 _ _ (w.heap.size + 2) 24 _ _ rfl hres.out Try.underlying24 rfl info_diag) rfl ?_
        exact ⟨DiaR.good (I1.out _ _ _) (I2.out _ _ _) ⟨HV1.out, HV2.out, HSS.out.symm, HMM.out.symm, rfl⟩, ((hb7'.setCell (p := ⟨w.heap.size + 2, 0, none⟩) (by simp) _).setCell (p := ⟨w.heap.size + 2, 1, none⟩) (by simp) _).setCell (p := ⟨w.heap.size + 2, 2, none⟩) (by simp) _⟩
end Go.Proofs.Ytcjaloddgilnpaa

namespace Go.Proofs.Ytcjaloddgilnpaa
open Go.RowKit
set_option linter.unusedVariables false

theorem sum_cross {Sa Ma Sb Mb : List Int} {La Lb : Int} {MM : List Int} {A : Option Addr} {n c base i j : Nat} (W : World) (hMM : MM = uM Ma Mb) (va : valB Sa Ma La = true) (vb : valB Sb Mb Lb = true) (hi : i < Ma.length) (hj : j < Mb.length) (h : OwnI 3 base W (.slice A n c) MM) :
    Calls Try.prog 59 #[.slice A n c, .int .i64 (i : Nat), .int .i64 ((Ma.length : Int) + (j : Int))] W fun e w' => e = .returned (.tuple #[]) ∧ OwnI 3 base w' (.slice A n c) (crM MM i (Ma.length + j)) ∧ ∃ b q, A = some ⟨b, 0, none⟩ ∧ base ≤ b ∧ w' = w4 (W.drewN q) b i (mt MM (Ma.length + j)) (Ma.length + j) (mt MM i) (mt MM (Ma.length + j) : Nat) (i : Nat) (mt MM i : Nat) ((Ma.length + j : Nat) : Int) := by
  subst hMM
  have ka := valB_ok va
  have kb := valB_ok vb
  have hl := uM_length Ma Mb
  have e1 : mt (uM Ma Mb) i = mt Ma i := mt_uM1 hi
  have e2 : mt (uM Ma Mb) (Ma.length + j) = Ma.length + mt Mb j := mt_uM2 hj (kb.pos j hj)
  have a1 := ka.lt i hi
  have b1 := kb.lt j hj
  have a2 := ka.ne i hi
  have b2 := kb.ne j hj
  have p1 : 0 ≤ (uM Ma Mb)[i]'(by omega) := by
    have : (uM Ma Mb)[i]'(by omega) = Ma[i] := by unfold uM; exact List.getElem_append_left hi
    rw [this]; exact ka.pos i hi
  have p2 : 0 ≤ (uM Ma Mb)[Ma.length + j]'(by omega) := by
    have : (uM Ma Mb)[Ma.length + j]'(by omega) = Mb[j] + (Ma.length : Int) := by unfold uM; rw [List.getElem_append_right (by omega)]; simp
    rw [this]; have := kb.pos j hj; omega
  have := cross_any A n c base (uM Ma Mb) i (Ma.length + j) W h (by omega) (by omega) (by omega) (by omega) p1 p2 (by omega) (by omega) (by omega) (by omega) (by omega) (by omega)
  rw [show ((Ma.length + j : Nat) : Int) = (Ma.length : Int) + (j : Int) by omega] at this ⊢
  exact this
set_option maxHeartbeats 1500000 in
set_option maxRecDepth 100000 in
theorem Sum_all (vsa vma vsb vmb : Value) (Sa Ma Sb Mb : List Int) (La Lb x y : Int) (w : World) (hSa : Ints w vsa Sa) (hMa : Ints w vma Ma) (hSb : Ints w vsb Sb) (hMb : Ints w vmb Mb) (hn9 : 64 < Sa.length ∨ 64 < Sb.length ∨ Sa.length + Sb.length ≤ 9) :
    Calls Try.prog 30 #[.agg #[vsa, vma, .int .i64 La], .int .i64 x, .agg #[vsb, vmb, .int .i64 Lb], .int .i64 y] w fun e w' => DiaR (fun S M L => valB Sa Ma La = true ∧ valB Sb Mb Lb = true ∧ S = Sa ++ Sb ∧ ((∃ i j, i < Ma.length ∧ j < Mb.length ∧ M = crM (uM Ma Mb) i (Ma.length + j) ∧ L = La + Lb) ∨ (M = uM Ma Mb ∧ L = La + Lb - 1 ∧ 1 ≤ La + Lb))) e w' ∧ Below w.heap.size w w' := by
  have hW : ∀ W, W = (((w.alloc (.cells #[vsa, vma, .int .i64 La] 24)).alloc (.cells #[vsb, vmb, .int .i64 Lb] 24)).alloc (.cells #[.slice none 0 0, .slice none 0 0, .int .i64 0] 24)) → Arr W w.heap.size 24 [vsa, vma, .int .i64 La] ∧ Arr W (w.heap.size + 1) 24 [vsb, vmb, .int .i64 Lb] ∧ Arr W (w.heap.size + 2) 24 [.slice none 0 0, .slice none 0 0, .int .i64 0] ∧ Below w.heap.size w W ∧ W.heap.size = w.heap.size + 3 := by
    intro W hW
    subst hW
    exact ⟨((Arr.new _ _ [_, _, _]).alloc _).alloc _, (Arr.newAt (w.alloc _) _ [_, _, _] _ (by simp)).alloc _, Arr.newAt ((w.alloc _).alloc _) _ [_, _, _] _ (by simp), (((Below.refl _ _).alloc (Nat.le_refl _) _).alloc (by simp) _).alloc (by simp <;> omega) _, by simp⟩
  have HVA := Lib.hid (fun W (hb : Below w.heap.size w W) => valid_code vsa vma Sa Ma La W (hSa.below hb) (hMa.below hb))
  have HVB := Lib.hid (fun W (hb : Below w.heap.size w W) => valid_code vsb vmb Sb Mb Lb W (hSb.below hb) (hMb.below hb))
  have HSa := Lib.hid (fun W (hb : Below w.heap.size w W) => hSa.below hb)
  have HMa := Lib.hid (fun W (hb : Below w.heap.size w W) => hMa.below hb)
  have HSb := Lib.hid (fun W (hb : Below w.heap.size w W) => hSb.below hb)
  have HMb := Lib.hid (fun W (hb : Below w.heap.size w W) => hMb.below hb)
  obtain ⟨A, c, rfl, hc, hx⟩ := hSa
  obtain ⟨A2, c2, rfl, hc2, hx2⟩ := hMa
  obtain ⟨A3, c3, rfl, hc3, hx3⟩ := hSb
  obtain ⟨A4, c4, rfl, hc4, hx4⟩ := hMb
  clear hx hx2 hx3 hx4
  go_enter Try.func30, Try.ntmps30
  go_upto_region 1 with fail
  generalize (((w.alloc (.cells #[.slice A Sa.length c, .slice A2 Ma.length c2, .int .i64 La] 24)).alloc (.cells #[.slice A3 Sb.length c3, .slice A4 Mb.length c4, .int .i64 Lb] 24)).alloc (.cells #[.slice none 0 0, .slice none 0 0, .int .i64 0] 24)) = w3 at hW ⊢
  obtain ⟨qa, qb, qr, hb3, hs3⟩ := hW w3 rfl
  clear hW
  have y0 := qa.cell 0
  have y1 := qa.cell 1
  have y2 := qa.cell 2
  cases hva : valB Sa Ma La with
  | false =>
    rw [hva] at HVA
    clear hva
    go_upto_region 2 with (go_at_call 38; refine (HVA.out _ hb3).mono ?_; rintro e w5 ⟨rfl, hb5⟩)
    have qr5 := qr.below hb5 qr.lt
    have hb5' := hb3.trans (hb5.mono hb3.size)
    clear y0 y1 y2
    have x0 := qr5.cell 0
    have f0 := qr5.frozen 0
    have x1 := qr5.cell 1
    have f1 := qr5.frozen 1
    have x2 := qr5.cell 2
    have f2 := qr5.frozen 2
    have hres := Lib.hid (((qr5.set 0 (.slice none 0 0)).set 1 (.slice none 0 0)).set 2 (.int .i64 0))
    go_wp2_with fail
    refine bodyPost_ret (v := .tuple #[.agg #[.slice none 0 0, .slice none 0 0, .int .i64 0], .int .i64 1]) (results_ct Try.results30 _ _ (w.heap.size + 2) 24 _ _ rfl hres.out Try.underlying24 rfl info_diag) rfl ?_
    exact ⟨DiaR.err (by decide), ((hb5'.setCell (p := ⟨w.heap.size + 2, 0, none⟩) (by simp) _).setCell (p := ⟨w.heap.size + 2, 1, none⟩) (by simp) _).setCell (p := ⟨w.heap.size + 2, 2, none⟩) (by simp) _⟩
  | true =>
    rw [hva] at HVA
    have ka := valB_ok hva
    have HV1 := Lib.hid hva
    clear hva
    go_wp2_with fail
    refine (HVA.out _ hb3).mono ?_
    rintro e w5 ⟨rfl, hb5⟩
    have qa5 := qa.below hb5 qa.lt
    have qb5 := qb.below hb5 qb.lt
    have qr5 := qr.below hb5 qr.lt
    have hb5' := hb3.trans (hb5.mono hb3.size)
    clear y0 y1 y2 qa qb qr hb5
    have y0 := qb5.cell 0
    have y1 := qb5.cell 1
    have y2 := qb5.cell 2
    cases hvb : valB Sb Mb Lb with
    | false =>
      rw [hvb] at HVB
      clear hvb
      go_upto_region 2 with (go_at_call 38; refine (HVB.out _ hb5').mono ?_; rintro e w6 ⟨rfl, hb6⟩)
      have qr6 := qr5.below hb6 qr5.lt
      have hb6' := hb5'.trans (hb6.mono hb5'.size)
      clear y0 y1 y2
      have x0 := qr6.cell 0
      have f0 := qr6.frozen 0
      have x1 := qr6.cell 1
      have f1 := qr6.frozen 1
      have x2 := qr6.cell 2
      have f2 := qr6.frozen 2
      have hres := Lib.hid (((qr6.set 0 (.slice none 0 0)).set 1 (.slice none 0 0)).set 2 (.int .i64 0))
      go_wp2_with fail
      refine bodyPost_ret (v := .tuple #[.agg #[.slice none 0 0, .slice none 0 0, .int .i64 0], .int .i64 1]) (results_ct Try.results30 _ _ (w.heap.size + 2) 24 _ _ rfl hres.out Try.underlying24 rfl info_diag) rfl ?_
      exact ⟨DiaR.err (by decide), ((hb6'.setCell (p := ⟨w.heap.size + 2, 0, none⟩) (by simp) _).setCell (p := ⟨w.heap.size + 2, 1, none⟩) (by simp) _).setCell (p := ⟨w.heap.size + 2, 2, none⟩) (by simp) _⟩
    | true =>
      rw [hvb] at HVB
      have kb := valB_ok hvb
      have HV2 := Lib.hid hvb
      clear hvb
      have hn : Sa.length + Sb.length ≤ 9 := by have := ka.n; have := kb.n; omega
      clear hn9
      have l1 := ka.l0
      have l2 := ka.l1
      have l3 := kb.l0
      have l4 := kb.l1
      have hma := Lib.hid ka.m
      have hmb := Lib.hid kb.m
      have HMV := Lib.hid (fun k (h : k < Mb.length) => (⟨kb.pos k h, by rw [mt_cast h (kb.pos k h)]; have := kb.lt k h; have := kb.m; omega⟩ : 0 ≤ Mb[k] ∧ Mb[k] ≤ 1000))
      clear ka kb
      go_upto_region 3 with (go_at_call 38; refine (HVB.out _ hb5').mono ?_; rintro e w6 ⟨rfl, hb6⟩)
      have qa6 := qa5.below hb6 qa5.lt
      have qb6 := qb5.below hb6 qb5.lt
      have qr6 := qr5.below hb6 qr5.lt
      have hb6' := hb5'.trans (hb6.mono hb5'.size)
      have hs6 := Lib.hid (show w.heap.size + 3 ≤ w6.heap.size by have := hb5'.size; have := hb6.size; have := qr5.lt; omega)
      clear y0 y1 y2 qa5 qb5 qr5 hb5' hb6
      have HEA := Lib.hid (fun W (hb : Below w.heap.size w W) => end_any _ _ Sa Ma La x W (HSa.out W hb) (HMa.out W hb) hma.out (by omega))
      have HEB := Lib.hid (fun W (hb : Below w.heap.size w W) => end_any _ _ Sb Mb Lb y W (HSb.out W hb) (HMb.out W hb) hmb.out (by omega))
      have y0 := qa6.cell 0
      have y1 := qa6.cell 1
      have y2 := qa6.cell 2
      go_wp2_with fail
      refine (HEA.out _ hb6').mono ?_
      rintro e w7 ⟨⟨o1, rfl, ho1⟩, hb7⟩
      have qa7 := qa6.below hb7 qa6.lt
      have qb7 := qb6.below hb7 qb6.lt
      have qr7 := qr6.below hb7 qr6.lt
      have hb7' := hb6'.trans (hb7.mono hb6'.size)
      clear y0 y1 y2 qa6 qb6 qr6 hb7 hb6' HEA
      cases o1 with
      | false =>
        clear ho1
        go_upto_region 4 with fail
        have x0 := qr7.cell 0
        have f0 := qr7.frozen 0
        have x1 := qr7.cell 1
        have f1 := qr7.frozen 1
        have x2 := qr7.cell 2
        have f2 := qr7.frozen 2
        have hres := Lib.hid (((qr7.set 0 (.slice none 0 0)).set 1 (.slice none 0 0)).set 2 (.int .i64 0))
        go_wp2_with fail
        refine bodyPost_ret (v := .tuple #[.agg #[.slice none 0 0, .slice none 0 0, .int .i64 0], .int .i64 2]) (results_ct Try.results30 _ _ (w.heap.size + 2) 24 _ _ rfl hres.out Try.underlying24 rfl info_diag) rfl ?_
        exact ⟨DiaR.err (by decide), ((hb7'.setCell (p := ⟨w.heap.size + 2, 0, none⟩) (by simp) _).setCell (p := ⟨w.heap.size + 2, 1, none⟩) (by simp) _).setCell (p := ⟨w.heap.size + 2, 2, none⟩) (by simp) _⟩
      | true =>
        have HX1 := Lib.hid (ho1 rfl)
        clear ho1
        have y0 := qb7.cell 0
        have y1 := qb7.cell 1
        have y2 := qb7.cell 2
        go_wp2_with fail
        refine (HEB.out _ hb7').mono ?_
        rintro e w8 ⟨⟨o2, rfl, ho2⟩, hb8⟩
        have qa8 := qa7.below hb8 qa7.lt
        have qb8 := qb7.below hb8 qb7.lt
        have qr8 := qr7.below hb8 qr7.lt
        have hb8' := hb7'.trans (hb8.mono hb7'.size)
        clear y0 y1 y2 qa7 qb7 qr7 hb8 hb7' HEB
        cases o2 with
        | false =>
          clear ho2
          go_upto_region 4 with fail
          have x0 := qr8.cell 0
          have f0 := qr8.frozen 0
          have x1 := qr8.cell 1
          have f1 := qr8.frozen 1
          have x2 := qr8.cell 2
          have f2 := qr8.frozen 2
          have hres := Lib.hid (((qr8.set 0 (.slice none 0 0)).set 1 (.slice none 0 0)).set 2 (.int .i64 0))
          go_wp2_with fail
          refine bodyPost_ret (v := .tuple #[.agg #[.slice none 0 0, .slice none 0 0, .int .i64 0], .int .i64 2]) (results_ct Try.results30 _ _ (w.heap.size + 2) 24 _ _ rfl hres.out Try.underlying24 rfl info_diag) rfl ?_
          exact ⟨DiaR.err (by decide), ((hb8'.setCell (p := ⟨w.heap.size + 2, 0, none⟩) (by simp) _).setCell (p := ⟨w.heap.size + 2, 1, none⟩) (by simp) _).setCell (p := ⟨w.heap.size + 2, 2, none⟩) (by simp) _⟩
        | true =>
          have HX2 := Lib.hid (ho2 rfl)
          clear ho2
          by_cases hx1 : x = -1
          · have z1 : (x == -1) = true := by simp [hx1]
            have hq := HX1.out
            have hp : 1 ≤ La + Lb := by omega
            clear hq hx1
            have hp1 : 1 ≤ La + Lb := by exact hp
            have y0 := qa8.cell 0
            have y1 := qa8.cell 1
            have y2 := qa8.cell 2
            have y3 := qb8.cell 0
            have y4 := qb8.cell 1
            have y5 := qb8.cell 2
            by_cases hL : 64 < La + Lb - 1
            · have HB := Lib.hid (beside_full _ _ _ _ Sa Ma Sb Mb La Lb (La + Lb - 1) w8 (HSa.out _ hb8') (HMa.out _ hb8') (HSb.out _ hb8') (HMb.out _ hb8') (by omega) hL)
              clear hL
              go_wp2_with fail
              refine HB.out.mono ?_
              rintro e w9 ⟨rfl, hb9⟩
              have qr9 := qr8.below hb9 qr8.lt
              have hb9' := hb8'.trans (hb9.mono hb8'.size)
              clear y0 y1 y2 y3 y4 y5 HB
              have x0 := qr9.cell 0
              have f0 := qr9.frozen 0
              have x1 := qr9.cell 1
              have f1 := qr9.frozen 1
              have x2 := qr9.cell 2
              have f2 := qr9.frozen 2
              have hres := Lib.hid (((qr9.set 0 (.slice none 0 0)).set 1 (.slice none 0 0)).set 2 (.int .i64 0))
              go_wp2_with fail
              refine bodyPost_ret (v := .tuple #[.agg #[.slice none 0 0, .slice none 0 0, .int .i64 0], .int .i64 5]) (results_ct Try.results30 _ _ (w.heap.size + 2) 24 _ _ rfl hres.out Try.underlying24 rfl info_diag) rfl ?_
              exact ⟨DiaR.err (by decide), ((hb9'.setCell (p := ⟨w.heap.size + 2, 0, none⟩) (by simp) _).setCell (p := ⟨w.heap.size + 2, 1, none⟩) (by simp) _).setCell (p := ⟨w.heap.size + 2, 2, none⟩) (by simp) _⟩
            · have HB := Lib.hid (beside_new _ _ _ _ Sa Ma Sb Mb (La + Lb - 1) w8 (HSa.out _ hb8') (HMa.out _ hb8') (HSb.out _ hb8') (HMb.out _ hb8') La Lb (by omega) (by omega) (by have := hma.out; omega) (by have := hmb.out; omega) (by omega) (by omega) HMV.out (Sa ++ Sb) (Lib.hid rfl))
              clear hL
              go_wp2_with fail
              refine HB.out.mono ?_
              rintro e w9 ⟨v1, v2, rfl, o1, o2, o3, hb9⟩
              have qr9 := qr8.below hb9 qr8.lt
              have hb9' := hb8'.trans (hb9.mono hb8'.size)
              have g1 := o1.apart qr9 (by decide)
              have g2 := o2.apart qr9 (by decide)
              have I1 := Lib.hid (fun (u1 u2 u3 : Value) => (((o1.far (j := 0) g1 u1).far (j := 1) g1 u2).far (j := 2) g1 u3).ints)
              have I2 := Lib.hid (fun (u1 u2 u3 : Value) => (((o2.far (j := 0) g2 u1).far (j := 1) g2 u2).far (j := 2) g2 u3).ints)
              obtain ⟨B1, n1, rfl⟩ := o1.form
              obtain ⟨B2, n2, rfl⟩ := o2.form
              clear y0 y1 y2 y3 y4 y5 HB o1 o2 o3 g1 g2
              generalize hSS : Sa ++ Sb = SS at *
              generalize hMM : uM Ma Mb = MM at *
              have HSS := Lib.hid hSS
              have HMM := Lib.hid hMM
              clear hSS hMM
              have x0 := qr9.cell 0
              have f0 := qr9.frozen 0
              have x1 := qr9.cell 1
              have f1 := qr9.frozen 1
              have x2 := qr9.cell 2
              have f2 := qr9.frozen 2
              have hres := Lib.hid (((qr9.set 0 (.slice B1 SS.length n1)).set 1 (.slice B2 MM.length n2)).set 2 (.int .i64 (La + Lb - 1)))
              go_wp2_with fail
              refine bodyPost_ret (v := .tuple #[.agg #[.slice B1 SS.length n1, .slice B2 MM.length n2, .int .i64 (La + Lb - 1)], .int .i64 0]) (results_ct Try.results30 _ _ (w.heap.size + 2) 24 _ _ rfl hres.out Try.underlying24 rfl info_diag) rfl ?_
              exact ⟨DiaR.good (I1.out _ _ _) (I2.out _ _ _) ⟨HV1.out, HV2.out, HSS.out.symm, .inr ⟨HMM.out.symm, rfl, hp1⟩⟩, ((hb9'.setCell (p := ⟨w.heap.size + 2, 0, none⟩) (by simp) _).setCell (p := ⟨w.heap.size + 2, 1, none⟩) (by simp) _).setCell (p := ⟨w.heap.size + 2, 2, none⟩) (by simp) _⟩
          · have z1 : (x == -1) = false := by simp [hx1]
            by_cases hy1 : y = -1
            · have z2 : (y == -1) = true := by simp [hy1]
              have hq := HX2.out
              have hp : 1 ≤ La + Lb := by omega
              clear hq hx1 hy1
              have hp1 : 1 ≤ La + Lb := by exact hp
              have y0 := qa8.cell 0
              have y1 := qa8.cell 1
              have y2 := qa8.cell 2
              have y3 := qb8.cell 0
              have y4 := qb8.cell 1
              have y5 := qb8.cell 2
              by_cases hL : 64 < La + Lb - 1
              · have HB := Lib.hid (beside_full _ _ _ _ Sa Ma Sb Mb La Lb (La + Lb - 1) w8 (HSa.out _ hb8') (HMa.out _ hb8') (HSb.out _ hb8') (HMb.out _ hb8') (by omega) hL)
                clear hL
                go_wp2_with fail
                refine HB.out.mono ?_
                rintro e w9 ⟨rfl, hb9⟩
                have qr9 := qr8.below hb9 qr8.lt
                have hb9' := hb8'.trans (hb9.mono hb8'.size)
                clear y0 y1 y2 y3 y4 y5 HB
                have x0 := qr9.cell 0
                have f0 := qr9.frozen 0
                have x1 := qr9.cell 1
                have f1 := qr9.frozen 1
                have x2 := qr9.cell 2
                have f2 := qr9.frozen 2
                have hres := Lib.hid (((qr9.set 0 (.slice none 0 0)).set 1 (.slice none 0 0)).set 2 (.int .i64 0))
                go_wp2_with fail
                refine bodyPost_ret (v := .tuple #[.agg #[.slice none 0 0, .slice none 0 0, .int .i64 0], .int .i64 5]) (results_ct Try.results30 _ _ (w.heap.size + 2) 24 _ _ rfl hres.out Try.underlying24 rfl info_diag) rfl ?_
                exact ⟨DiaR.err (by decide), ((hb9'.setCell (p := ⟨w.heap.size + 2, 0, none⟩) (by simp) _).setCell (p := ⟨w.heap.size + 2, 1, none⟩) (by simp) _).setCell (p := ⟨w.heap.size + 2, 2, none⟩) (by simp) _⟩
              · have HB := Lib.hid (beside_new _ _ _ _ Sa Ma Sb Mb (La + Lb - 1) w8 (HSa.out _ hb8') (HMa.out _ hb8') (HSb.out _ hb8') (HMb.out _ hb8') La Lb (by omega) (by omega) (by have := hma.out; omega) (by have := hmb.out; omega) (by omega) (by omega) HMV.out (Sa ++ Sb) (Lib.hid rfl))
                clear hL
                go_wp2_with fail
                refine HB.out.mono ?_
                rintro e w9 ⟨v1, v2, rfl, o1, o2, o3, hb9⟩
                have qr9 := qr8.below hb9 qr8.lt
                have hb9' := hb8'.trans (hb9.mono hb8'.size)
                have g1 := o1.apart qr9 (by decide)
                have g2 := o2.apart qr9 (by decide)
                have I1 := Lib.hid (fun (u1 u2 u3 : Value) => (((o1.far (j := 0) g1 u1).far (j := 1) g1 u2).far (j := 2) g1 u3).ints)
                have I2 := Lib.hid (fun (u1 u2 u3 : Value) => (((o2.far (j := 0) g2 u1).far (j := 1) g2 u2).far (j := 2) g2 u3).ints)
                obtain ⟨B1, n1, rfl⟩ := o1.form
                obtain ⟨B2, n2, rfl⟩ := o2.form
                clear y0 y1 y2 y3 y4 y5 HB o1 o2 o3 g1 g2
                generalize hSS : Sa ++ Sb = SS at *
                generalize hMM : uM Ma Mb = MM at *
                have HSS := Lib.hid hSS
                have HMM := Lib.hid hMM
                clear hSS hMM
                have x0 := qr9.cell 0
                have f0 := qr9.frozen 0
                have x1 := qr9.cell 1
                have f1 := qr9.frozen 1
                have x2 := qr9.cell 2
                have f2 := qr9.frozen 2
                have hres := Lib.hid (((qr9.set 0 (.slice B1 SS.length n1)).set 1 (.slice B2 MM.length n2)).set 2 (.int .i64 (La + Lb - 1)))
                go_wp2_with fail
                refine bodyPost_ret (v := .tuple #[.agg #[.slice B1 SS.length n1, .slice B2 MM.length n2, .int .i64 (La + Lb - 1)], .int .i64 0]) (results_ct Try.results30 _ _ (w.heap.size + 2) 24 _ _ rfl hres.out Try.underlying24 rfl info_diag) rfl ?_
                exact ⟨DiaR.good (I1.out _ _ _) (I2.out _ _ _) ⟨HV1.out, HV2.out, HSS.out.symm, .inr ⟨HMM.out.symm, rfl, hp1⟩⟩, ((hb9'.setCell (p := ⟨w.heap.size + 2, 0, none⟩) (by simp) _).setCell (p := ⟨w.heap.size + 2, 1, none⟩) (by simp) _).setCell (p := ⟨w.heap.size + 2, 2, none⟩) (by simp) _⟩
            · have z2 : (y == -1) = false := by simp [hy1]
              obtain ⟨i, rfl⟩ : ∃ i : Nat, x = (i : Int) := ⟨x.toNat, by have := HX1.out; omega⟩
              obtain ⟨j, rfl⟩ : ∃ j : Nat, y = (j : Int) := ⟨y.toNat, by have := HX2.out; omega⟩
              have hi : i < Ma.length := by have := HX1.out; omega
              have q1 : Ma.length ≤ 1000 := by have := hma.out; omega
              have q2 : Mb.length ≤ 1000 := by have := hmb.out; omega
              have hj : j < Mb.length := by have := HX2.out; omega
              clear hx1 hy1
              have y0 := qa8.cell 0
              have y1 := qa8.cell 1
              have y2 := qa8.cell 2
              have y3 := qb8.cell 0
              have y4 := qb8.cell 1
              have y5 := qb8.cell 2
              by_cases hL : 64 < La + Lb
              · have HB := Lib.hid (beside_full _ _ _ _ Sa Ma Sb Mb La Lb (La + Lb) w8 (HSa.out _ hb8') (HMa.out _ hb8') (HSb.out _ hb8') (HMb.out _ hb8') (by omega) hL)
                clear hL
                go_upto_region 8 with (go_at_call 58; refine HB.out.mono ?_; rintro e w9 ⟨rfl, hb9⟩)
                have qr9 := qr8.below hb9 qr8.lt
                have hb9' := hb8'.trans (hb9.mono hb8'.size)
                have hWr : Arr (w9.alloc (.cells #[.slice none 0 0, .slice none 0 0, .int .i64 0] 24)) w9.heap.size 24 [.slice none 0 0, .slice none 0 0, .int .i64 0] ∧ Below w9.heap.size w9 (w9.alloc (.cells #[.slice none 0 0, .slice none 0 0, .int .i64 0] 24)) := ⟨Arr.new _ _ [_, _, _], (Below.refl _ _).alloc (Nat.le_refl _) _⟩
                generalize (w9.alloc (.cells #[.slice none 0 0, .slice none 0 0, .int .i64 0] 24)) = wA at hWr ⊢
                obtain ⟨rA, hbA⟩ := hWr
                have qrA := qr9.below hbA qr9.lt
                have hbA' := hb9'.trans (hbA.mono hb9'.size)
                clear y0 y1 y2 y3 y4 y5 HB
                have y0 := rA.cell 0
                have y1 := rA.cell 1
                have y2 := rA.cell 2
                have x0 := qrA.cell 0
                have f0 := qrA.frozen 0
                have x1 := qrA.cell 1
                have f1 := qrA.frozen 1
                have x2 := qrA.cell 2
                have f2 := qrA.frozen 2
                have hres := Lib.hid (((qrA.set 0 (.slice none 0 0)).set 1 (.slice none 0 0)).set 2 (.int .i64 0))
                go_wp2_with fail
                refine bodyPost_ret (v := .tuple #[.agg #[.slice none 0 0, .slice none 0 0, .int .i64 0], .int .i64 5]) (results_ct Try.results30 _ _ (w.heap.size + 2) 24 _ _ rfl hres.out Try.underlying24 rfl info_diag) rfl ?_
                exact ⟨DiaR.err (by decide), ((hbA'.setCell (p := ⟨w.heap.size + 2, 0, none⟩) (by simp) _).setCell (p := ⟨w.heap.size + 2, 1, none⟩) (by simp) _).setCell (p := ⟨w.heap.size + 2, 2, none⟩) (by simp) _⟩
              · have HB := Lib.hid (beside_new _ _ _ _ Sa Ma Sb Mb (La + Lb) w8 (HSa.out _ hb8') (HMa.out _ hb8') (HSb.out _ hb8') (HMb.out _ hb8') La Lb (by omega) (by omega) (by have := hma.out; omega) (by have := hmb.out; omega) (by omega) (by omega) HMV.out (Sa ++ Sb) (Lib.hid rfl))
                clear hL
                go_wp2_with fail
                refine HB.out.mono ?_
                rintro e w9 ⟨v1, v2, rfl, o1, o2, o3, hb9⟩
                have qr9 := qr8.below hb9 qr8.lt
                have qa9 := qa8.below hb9 qa8.lt
                have hb9' := hb8'.trans (hb9.mono hb8'.size)
                have O1 := Lib.hid o1
                have O2 := Lib.hid o2
                obtain ⟨B1, n1, rfl⟩ := o1.form
                obtain ⟨B2, n2, rfl⟩ := o2.form
                have O3 := Lib.hid o3
                clear y0 y1 y2 y3 y4 y5 HB o1 o2 o3
                generalize hSS : Sa ++ Sb = SS at *
                generalize hMM : uM Ma Mb = MM at *
                have HSS := Lib.hid hSS
                have HMM := Lib.hid hMM
                clear hSS hMM
                go_upto_region 8 with fail
                have hWr : Arr (w9.alloc (.cells #[.slice B1 SS.length n1, .slice B2 MM.length n2, .int .i64 (La + Lb)] 24)) w9.heap.size 24 [.slice B1 SS.length n1, .slice B2 MM.length n2, .int .i64 (La + Lb)] ∧ Below w9.heap.size w9 (w9.alloc (.cells #[.slice B1 SS.length n1, .slice B2 MM.length n2, .int .i64 (La + Lb)] 24)) := ⟨Arr.new _ _ [_, _, _], (Below.refl _ _).alloc (Nat.le_refl _) _⟩
                generalize (w9.alloc (.cells #[.slice B1 SS.length n1, .slice B2 MM.length n2, .int .i64 (La + Lb)] 24)) = wA at hWr ⊢
                obtain ⟨rA, hbA⟩ := hWr
                have qrA := qr9.below hbA qr9.lt
                have qaA := qa9.below hbA qa9.lt
                have hbA' := hb9'.trans (hbA.mono hb9'.size)
                have OA1 := Lib.hid (O1.out.below hbA (Nat.le_refl _))
                have OA2 := Lib.hid (O2.out.below hbA (Nat.le_refl _))
                have HB8 := Lib.hid hb8'.size
                clear O1 O2 qa9 qr9 qa8 qr8 qb8 hb9 hbA hb9' hb8'
                have HC := Lib.hid (sum_cross (i := i) (j := j) wA HMM.out.symm HV1.out HV2.out hi hj OA2.out)
                have y0 := rA.cell 1
                have y1 := qaA.cell 1
                go_wp2_with fail
                ((with_reducible refine HC.out.mono ?_); skip)
                rintro e w10 ⟨rfl, OF, b, q, rfl, hbb, hw⟩
                subst hw
                have g1 : (Value.slice B1 SS.length n1).ownBlock ≠ some b := fun e => O3.out b e rfl
                have k1 := OA2.out.apart rA (by decide)
                have k2 := OA2.out.apart qrA (by decide)
                have nb1 : w9.heap.size ≠ b := fun e => k1 (by rw [e]; rfl)
                have nb2 : w.heap.size + 2 ≠ b := fun e => k2 (by rw [e]; rfl)
                have rB := (rA.drewN q).w4 (i1 := i) (i2 := mt MM (Ma.length + j)) (i3 := Ma.length + j) (i4 := mt MM i) (a1 := ((mt MM (Ma.length + j) : Nat) : Int)) (a2 := ((i : Nat) : Int)) (a3 := ((mt MM i : Nat) : Int)) (a4 := ((Ma.length + j : Nat) : Int)) nb1
                have qrB := (qrA.drewN q).w4 (i1 := i) (i2 := mt MM (Ma.length + j)) (i3 := Ma.length + j) (i4 := mt MM i) (a1 := ((mt MM (Ma.length + j) : Nat) : Int)) (a2 := ((i : Nat) : Int)) (a3 := ((mt MM i : Nat) : Int)) (a4 := ((Ma.length + j : Nat) : Int)) nb2
                have hbB := Below.w4 (i1 := i) (i2 := mt MM (Ma.length + j)) (i3 := Ma.length + j) (i4 := mt MM i) (a1 := ((mt MM (Ma.length + j) : Nat) : Int)) (a2 := ((i : Nat) : Int)) (a3 := ((mt MM i : Nat) : Int)) (a4 := ((Ma.length + j : Nat) : Int)) (bdrewN hbA' q) (show w.heap.size ≤ b by have := HB8.out; omega)
                have OB1 := Lib.hid (OwnI.w4 (i1 := i) (i2 := mt MM (Ma.length + j)) (i3 := Ma.length + j) (i4 := mt MM i) (a1 := ((mt MM (Ma.length + j) : Nat) : Int)) (a2 := ((i : Nat) : Int)) (a3 := ((mt MM i : Nat) : Int)) (a4 := ((Ma.length + j : Nat) : Int)) (OA1.out.drewN q) g1)
                generalize w4 (wA.drewN q) b i (mt MM (Ma.length + j)) (Ma.length + j) (mt MM i) ((mt MM (Ma.length + j) : Nat) : Int) ((i : Nat) : Int) ((mt MM i : Nat) : Int) ((Ma.length + j : Nat) : Int) = wB at *
                have G1 := OB1.out.apart qrB (by decide)
                have G2 := OF.apart qrB (by decide)
                have I1 := Lib.hid (fun (u1 u2 u3 : Value) => (((OB1.out.far (j := 0) G1 u1).far (j := 1) G1 u2).far (j := 2) G1 u3).ints)
                have I2 := Lib.hid (fun (u1 u2 u3 : Value) => (((OF.far (j := 0) G2 u1).far (j := 1) G2 u2).far (j := 2) G2 u3).ints)
                have LN := Lib.hid (crM_length MM i (Ma.length + j))
                clear y0 y1 rA qrA qaA hbA' OA1 OA2 OB1 OF G1 G2 k1 k2 nb1 nb2 g1 O3 HC
                have y0 := rB.cell 0
                have y1 := rB.cell 1
                have y2 := rB.cell 2
                have x0 := qrB.cell 0
                have f0 := qrB.frozen 0
                have x1 := qrB.cell 1
                have f1 := qrB.frozen 1
                have x2 := qrB.cell 2
                have f2 := qrB.frozen 2
                have hres := Lib.hid (((qrB.set 0 (.slice B1 SS.length n1)).set 1 (.slice (some ⟨b, 0, none⟩) MM.length n2)).set 2 (.int .i64 (La + Lb)))
                go_wp2_with fail
                refine bodyPost_ret (v := .tuple #[.agg #[.slice B1 SS.length n1, .slice (some ⟨b, 0, none⟩) MM.length n2, .int .i64 (La + Lb)], .int .i64 0]) (results_ct Try.results30 _ _ (w.heap.size + 2) 24 _ _ rfl hres.out Try.underlying24 rfl info_diag) rfl ?_
                exact ⟨DiaR.good (I1.out _ _ _) (I2.out _ _ _) ⟨HV1.out, HV2.out, HSS.out.symm, .inl ⟨i, j, hi, hj, by rw [HMM.out], rfl⟩⟩, ((hbB.setCell (p := ⟨w.heap.size + 2, 0, none⟩) (by simp) _).setCell (p := ⟨w.heap.size + 2, 1, none⟩) (by simp) _).setCell (p := ⟨w.heap.size + 2, 2, none⟩) (by simp) _⟩
end Go.Proofs.Ytcjaloddgilnpaa
