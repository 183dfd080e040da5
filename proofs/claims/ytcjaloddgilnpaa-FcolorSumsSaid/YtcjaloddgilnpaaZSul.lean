/- FcolorSums: fcolor.Count for every input, the products. -/
/- FcolorSums returns true. -/
import Derived.Test.YtcjaloddgilnpaaZSuc
import Derived.Test.YtcjaloddgilnpaaZLgc
import Derived.Test.YtcjaloddgilnpaaZNco
namespace Go.Proofs.Ytcjaloddgilnpaa
open Go.RowKit
set_option linter.unusedVariables false

/-- what Count returns where the error is OK -/
def CntQ (S M : List Int) (L md n : Int) : Prop := valB S M L = true ∧ 1 ≤ md ∧ md ≤ 1000 ∧ S.length ≤ 14 ∧ n = ((nFox S.length (mt M) md.toNat * md.toNat ^ L.toNat : Nat) : Int) ∧ n ≤ 1125899906842624
def CntR (S M : List Int) (L md : Int) (e : Ending) : Prop := ∃ n er : Int, e = .returned (.tuple #[.int .i64 n, .int .i64 er]) ∧ Hid (er = 0 → CntQ S M L md n)
theorem Count_all (vs vm : Value) (S M : List Int) (L md : Int) (w : World) (hS : Ints w vs S) (hM : Ints w vm M) :
    Calls Try.prog 16 #[.agg #[vs, vm, .int .i64 L], .int .i64 md] w fun e w' => CntR S M L md e ∧ Below w.heap.size w w' := by
  cases hv : valB S M L with
  | false => exact (Count_arg vs vm S M L md w hS hM hv).mono fun e w' ⟨he, hb⟩ => ⟨⟨0, 1, he, Lib.hid fun h => absurd h (by decide)⟩, hb⟩
  | true =>
    by_cases hr : md < 1 ∨ 1000 < md
    · exact (Count_range vs vm S M L md w hS hM hv hr).mono fun e w' ⟨he, hb⟩ => ⟨⟨0, 2, he, Lib.hid fun h => absurd h (by decide)⟩, hb⟩
    · obtain ⟨mo, rfl⟩ : ∃ mo : Nat, md = (mo : Int) := ⟨md.toNat, by omega⟩
      have hm1 : 1 ≤ mo := by omega
      have hm2 : mo ≤ 1000 := by omega
      by_cases hf : 14 < S.length ∨ 4 < L
      · exact (Count_full vs vm S M L mo w hS hM hv hm1 hm2 hf).mono fun e w' ⟨he, hb⟩ => ⟨⟨0, 5, he, Lib.hid fun h => absurd h (by decide)⟩, hb⟩
      · refine (Count_yes vs vm S M L mo w hS hM hv hm1 hm2 (by omega) (by omega)).mono fun e w' ⟨he, hb⟩ => ⟨?_, hb⟩
        obtain ⟨nv, ev, rfl, hne⟩ := cntE_form he
        refine ⟨nv, ev, rfl, Lib.hid fun h => ?_⟩
        rcases hne with ⟨_, _, h2⟩ | ⟨h1, h2⟩
        · omega
        · have hc := cnt_val (valB_ok hv) (by omega) hm1 h1
          have hb := cntP_bd hm1 h1
          refine ⟨hv, by omega, by omega, by omega, ?_, by omega⟩
          rw [Int.toNat_natCast, ← hc]
/-- a sum, as connect.Sum tells it -/
def SumQ (Sa Ma Sb Mb : List Int) (La Lb : Int) (S M : List Int) (L : Int) : Prop := valB Sa Ma La = true ∧ valB Sb Mb Lb = true ∧ S = Sa ++ Sb ∧ ((∃ i j, i < Ma.length ∧ j < Mb.length ∧ M = crM (uM Ma Mb) i (Ma.length + j) ∧ L = La + Lb) ∨ (M = uM Ma Mb ∧ L = La + Lb - 1 ∧ 1 ≤ La + Lb))
def UniQ (Sa Ma Sb Mb : List Int) (La Lb : Int) (S M : List Int) (L : Int) : Prop := valB Sa Ma La = true ∧ valB Sb Mb Lb = true ∧ S = Sa ++ Sb ∧ M = uM Ma Mb ∧ L = La + Lb
theorem sums_law_end {Sa Ma Sb Mb S1 M1 S2 M2 : List Int} {La Lb L1 L2 md n m k u : Int} (hs : SumQ Sa Ma Sb Mb La Lb S1 M1 L1) (hu : UniQ Sa Ma Sb Mb La Lb S2 M2 L2)
    (c1 : CntQ Sa Ma La md n) (c2 : CntQ Sb Mb Lb md m) (c3 : CntQ S1 M1 L1 md k) (c4 : CntQ S2 M2 L2 md u) : n * m = md * k ∧ u = n * m ∧ 0 ≤ n ∧ 0 ≤ m ∧ 0 ≤ k ∧ k ≤ 1125899906842624 ∧ 1 ≤ md := by
  obtain ⟨va, vb, rfl, hs⟩ := hs
  obtain ⟨_, _, rfl, rfl, rfl⟩ := hu
  obtain ⟨_, m1, m2, _, e1, _⟩ := c1
  obtain ⟨_, _, _, _, e2, _⟩ := c2
  obtain ⟨_, _, _, _, e3, b3⟩ := c3
  obtain ⟨_, _, _, _, e4, _⟩ := c4
  have ka := valB_ok va
  have kb := valB_ok vb
  have la := ka.l0
  have lb := kb.l0
  have hm : 0 < md.toNat := by omega
  have hmd : ((md.toNat : Nat) : Int) = md := by omega
  rw [List.length_append] at e3 e4
  have hu := union_count va vb hm
  have hL2 : (La + Lb).toNat = La.toNat + Lb.toNat := by omega
  rw [hL2] at e4
  have key : (nFox Sa.length (mt Ma) md.toNat * md.toNat ^ La.toNat) * (nFox Sb.length (mt Mb) md.toNat * md.toNat ^ Lb.toNat) = md.toNat * (nFox (Sa.length + Sb.length) (mt M1) md.toNat * md.toNat ^ L1.toNat) ∧ nFox (Sa.length + Sb.length) (mt (uM Ma Mb)) md.toNat * md.toNat ^ (La.toNat + Lb.toNat) = (nFox Sa.length (mt Ma) md.toNat * md.toNat ^ La.toNat) * (nFox Sb.length (mt Mb) md.toNat * md.toNat ^ Lb.toNat) := by
    refine sums_end hm hu ?_
    rcases hs with ⟨i, j, hi, hj, rfl, rfl⟩ | ⟨rfl, rfl, h1⟩
    · exact .inl ⟨sum_count va vb hi hj hm, hL2⟩
    · exact .inr ⟨hu, by omega⟩
  obtain ⟨k1, k2⟩ := key
  refine ⟨?_, ?_, by omega, by omega, by omega, b3, m1⟩
  · rw [e1, e2, e3, ← Int.natCast_mul, k1, Int.natCast_mul, hmd]
  · rw [e4, k2, Int.natCast_mul, ← e1, ← e2]
theorem small_or {a b : Nat} (h : ¬ ((9 : Int) < wrap64 ((a : Int) + (b : Int)))) : 64 < a ∨ 64 < b ∨ a + b ≤ 9 := by
  unfold wrap64 at h
  omega
theorem sums_bd {n m md k : Int} (p3 : 0 ≤ n) (p4 : 0 ≤ m) (p5 : 0 ≤ k) (p6 : k ≤ 1125899906842624) (p7 : 1 ≤ md) (h1 : md ≤ 100) (g1 : n ≤ 1073741824) (g2 : m ≤ 1073741824) : 0 ≤ n * m ∧ n * m ≤ 1152921504606846976 ∧ 0 ≤ md * k ∧ md * k ≤ 112589990684262400 := by
  have m1 : 0 ≤ n * m := Int.mul_nonneg p3 p4
  have m2 : n * m ≤ 1073741824 * m := Int.mul_le_mul_of_nonneg_right g1 p4
  have m3 : 0 ≤ md * k := Int.mul_nonneg (by omega) p5
  have m4 : md * k ≤ 100 * k := Int.mul_le_mul_of_nonneg_right h1 p5
  refine ⟨m1, by omega, m3, by omega⟩
end Go.Proofs.Ytcjaloddgilnpaa

namespace Go.Proofs.Ytcjaloddgilnpaa
open Go.RowKit
set_option linter.unusedVariables false

set_option maxHeartbeats 4000000 in
set_option maxRecDepth 100000 in
theorem sums_law (vsa vma vsb vmb : Value) (Sa Ma : List Int) (La x : Int) (Sb Mb : List Int) (Lb y md : Int) (w : World) (hSa : Ints w vsa Sa) (hMa : Ints w vma Ma) (hSb : Ints w vsb Sb) (hMb : Ints w vmb Mb) :
    Calls Try.prog 9 #[.agg #[vsa, vma, .int .i64 La], .int .i64 x, .agg #[vsb, vmb, .int .i64 Lb], .int .i64 y, .int .i64 md] w fun e w' => e = .returned (.bool true) ∧ Below w.heap.size w w' := by
  have hW : ∀ W, W = (w.alloc (.cells #[vsa, vma, .int .i64 La] 24)).alloc (.cells #[vsb, vmb, .int .i64 Lb] 24) → Arr W w.heap.size 24 [vsa, vma, .int .i64 La] ∧ Arr W (w.heap.size + 1) 24 [vsb, vmb, .int .i64 Lb] ∧ Below w.heap.size w W := by
    intro W hW
    subst hW
    exact ⟨(Arr.new _ _ [_, _, _]).alloc _, Arr.newAt (w.alloc _) _ [_, _, _] _ (by simp), ((Below.refl _ _).alloc (Nat.le_refl _) _).alloc (by simp) _⟩
  have HAW := Lib.hid awake_any
  have HGA := Lib.hid (fun W (hb : Below w.heap.size w W) => great_any vsa vma Sa Ma La W (hSa.below hb) (hMa.below hb))
  have HGB := Lib.hid (fun W (hb : Below w.heap.size w W) => great_any vsb vmb Sb Mb Lb W (hSb.below hb) (hMb.below hb))
  have HCA := Lib.hid (fun W (hb : Below w.heap.size w W) => Count_all vsa vma Sa Ma La md W (hSa.below hb) (hMa.below hb))
  have HCB := Lib.hid (fun W (hb : Below w.heap.size w W) => Count_all vsb vmb Sb Mb Lb md W (hSb.below hb) (hMb.below hb))
  have HSM := Lib.hid (fun (hn : 64 < Sa.length ∨ 64 < Sb.length ∨ Sa.length + Sb.length ≤ 9) W (hb : Below w.heap.size w W) => Sum_all vsa vma vsb vmb Sa Ma Sb Mb La Lb x y W (hSa.below hb) (hMa.below hb) (hSb.below hb) (hMb.below hb) hn)
  have HUN := Lib.hid (fun (hn : 64 < Sa.length ∨ 64 < Sb.length ∨ Sa.length + Sb.length ≤ 9) W (hb : Below w.heap.size w W) => Union_all vsa vma vsb vmb Sa Ma Sb Mb La Lb W (hSa.below hb) (hMa.below hb) (hSb.below hb) (hMb.below hb) hn)
  obtain ⟨A, c, rfl, hc, hx⟩ := hSa
  obtain ⟨A2, c2, rfl, hc2, hx2⟩ := hMa
  obtain ⟨A3, c3, rfl, hc3, hx3⟩ := hSb
  obtain ⟨A4, c4, rfl, hc4, hx4⟩ := hMb
  clear hx hx2 hx3 hx4
  go_enter Try.func9, Try.ntmps9
  go_upto_region 1 with fail
  generalize ((w.alloc (.cells #[.slice A Sa.length c, .slice A2 Ma.length c2, .int .i64 La] 24)).alloc (.cells #[.slice A3 Sb.length c3, .slice A4 Mb.length c4, .int .i64 Lb] 24)) = w4 at hW ⊢
  obtain ⟨qa, qb, hb4⟩ := hW w4 rfl
  clear hW
  go_upto_region 3 with (go_at_call 10; refine (HAW.out _).mono ?_; rintro e w5 ⟨rfl, hb5⟩)
  have qa5 := qa.below hb5 qa.lt
  have qb5 := qb.below hb5 qb.lt
  have hb5' := hb4.trans (hb5.mono hb4.size)
  clear qa qb hb4 hb5
  have y0 := qa5.cell 0
  have y1 := qa5.cell 1
  have y2 := qa5.cell 2
  cases hga : grB Sa Ma with
  | true =>
    rw [hga] at HGA
    clear hga
    go_wp2_with (go_at_call 15; refine (HGA.out _ hb5').mono ?_; rintro e w6 ⟨rfl, hb6⟩)
    go_ret
    exact ⟨rfl, hb5'.trans (hb6.mono hb5'.size)⟩
  | false =>
    rw [hga] at HGA
    clear hga
    go_wp2_with fail
    refine (HGA.out _ hb5').mono ?_
    rintro e w6 ⟨rfl, hb6⟩
    have qa6 := qa5.below hb6 qa5.lt
    have qb6 := qb5.below hb6 qb5.lt
    have hb6' := hb5'.trans (hb6.mono hb5'.size)
    clear y0 y1 y2 qa5 qb5 hb5' hb6
    have y0 := qb6.cell 0
    have y1 := qb6.cell 1
    have y2 := qb6.cell 2
    cases hgb : grB Sb Mb with
    | true =>
      rw [hgb] at HGB
      clear hgb
      go_wp2_with (go_at_call 15; refine (HGB.out _ hb6').mono ?_; rintro e w7 ⟨rfl, hb7⟩)
      go_ret
      exact ⟨rfl, hb6'.trans (hb7.mono hb6'.size)⟩
    | false =>
      rw [hgb] at HGB
      clear hgb
      go_wp2_with fail
      refine (HGB.out _ hb6').mono ?_
      rintro e w7 ⟨rfl, hb7⟩
      have qa7 := qa6.below hb7 qa6.lt
      have qb7 := qb6.below hb7 qb6.lt
      have hb7' := hb6'.trans (hb7.mono hb6'.size)
      clear y0 y1 y2 qa6 qb6 hb6' hb7 HGA HGB
      have y0 := qa7.cell 0
      have y1 := qa7.cell 1
      have y2 := qa7.cell 2
      have y3 := qb7.cell 0
      have y4 := qb7.cell 1
      have y5 := qb7.cell 2
      obtain ⟨sm, hsm⟩ : ∃ s, wrap64 ((Sa.length : Int) + (Sb.length : Int)) = s := ⟨_, rfl⟩
      have HSMB := Lib.hid (fun h => small_or (a := Sa.length) (b := Sb.length) (by rw [hsm]; exact h))
      by_cases z1 : (9 : Int) < sm
      rotate_left
      · have hn := HSMB.out z1
        by_cases hmd : 100 < md
        · go_wp2_with fail
          go_ret
          exact ⟨rfl, hb7'⟩
        · have HS1 := Lib.hid (HSM.out hn w7 hb7')
          have HU1 := Lib.hid (HUN.out hn)
          clear hn HSM HUN
          go_upto_region 5 with fail
          clear z1
          go_wp2_with fail
          refine HS1.out.mono ?_
          rintro e w8 ⟨⟨B1, n1, B2, n2, S1, M1, L1, k1, rfl, I1, I2, hP1⟩, hb8⟩
          have qa8 := qa7.below hb8 qa7.lt
          have qb8 := qb7.below hb8 qb7.lt
          have hb8' := hb7'.trans (hb8.mono hb7'.size)
          have J1 := Lib.hid (fun W (hb : Below w8.heap.size w8 W) => Count_all _ _ S1 M1 L1 md W (I1.below hb) (I2.below hb))
          have P1 := Lib.hid (show k1 = 0 → SumQ Sa Ma Sb Mb La Lb S1 M1 L1 from hP1)
          clear y0 y1 y2 y3 y4 y5 qa7 qb7 hb7' hb8 I1 I2 hP1 HS1
          go_upto_region 6 with fail
          have hX : Arr (w8.alloc (.cells #[.slice B1 S1.length n1, .slice B2 M1.length n2, .int .i64 L1] 24)) w8.heap.size 24 [.slice B1 S1.length n1, .slice B2 M1.length n2, .int .i64 L1] ∧ Below w8.heap.size w8 (w8.alloc (.cells #[.slice B1 S1.length n1, .slice B2 M1.length n2, .int .i64 L1] 24)) := ⟨Arr.new _ _ [_, _, _], (Below.refl _ _).alloc (Nat.le_refl _) _⟩
          generalize (w8.alloc (.cells #[.slice B1 S1.length n1, .slice B2 M1.length n2, .int .i64 L1] 24)) = w9 at hX ⊢
          obtain ⟨r9, hb9⟩ := hX
          have qa9 := qa8.below hb9 qa8.lt
          have qb9 := qb8.below hb9 qb8.lt
          have hb9' := hb8'.trans (hb9.mono hb8'.size)
          have y0 := qa9.cell 0
          have y1 := qa9.cell 1
          have y2 := qa9.cell 2
          have y3 := qb9.cell 0
          have y4 := qb9.cell 1
          have y5 := qb9.cell 2
          go_wp2_with fail
          refine (HU1.out _ hb9').mono ?_
          rintro e w10 ⟨⟨B3, n3, B4, n4, S2, M2, L2, k2, rfl, I3, I4, hP2⟩, hb10⟩
          have qa10 := qa9.below hb10 qa9.lt
          have qb10 := qb9.below hb10 qb9.lt
          have r10 := r9.below hb10 r9.lt
          have hb10' := hb9'.trans (hb10.mono hb9'.size)
          have t10 := hb9.trans (hb10.mono hb9.size)
          have J2 := Lib.hid (fun W (hb : Below w10.heap.size w10 W) => Count_all _ _ S2 M2 L2 md W (I3.below hb) (I4.below hb))
          have P2 := Lib.hid (show k2 = 0 → UniQ Sa Ma Sb Mb La Lb S2 M2 L2 from hP2)
          clear y0 y1 y2 y3 y4 y5 qa8 qb8 qa9 qb9 r9 hb8' hb9' hb9 hb10 I3 I4 hP2 HU1
          go_upto_region 7 with fail
          have hX : Arr (w10.alloc (.cells #[.slice B3 S2.length n3, .slice B4 M2.length n4, .int .i64 L2] 24)) w10.heap.size 24 [.slice B3 S2.length n3, .slice B4 M2.length n4, .int .i64 L2] ∧ Below w10.heap.size w10 (w10.alloc (.cells #[.slice B3 S2.length n3, .slice B4 M2.length n4, .int .i64 L2] 24)) := ⟨Arr.new _ _ [_, _, _], (Below.refl _ _).alloc (Nat.le_refl _) _⟩
          generalize (w10.alloc (.cells #[.slice B3 S2.length n3, .slice B4 M2.length n4, .int .i64 L2] 24)) = w11 at hX ⊢
          obtain ⟨u11, hb11⟩ := hX
          have qa11 := qa10.below hb11 qa10.lt
          have qb11 := qb10.below hb11 qb10.lt
          have r11 := r10.below hb11 r10.lt
          have hb11' := hb10'.trans (hb11.mono hb10'.size)
          have t11 := t10.trans (hb11.mono t10.size)
          have F1 := Lib.hid (fun W (hb : Below w11.heap.size w11 W) => J1.out W (t11.trans (hb.mono t11.size)))
          have F2 := Lib.hid (fun W (hb : Below w11.heap.size w11 W) => J2.out W (hb11.trans (hb.mono hb11.size)))
          clear qa10 qb10 r10 hb10' t10 t11 hb11 J1 J2
          by_cases hk1 : k1 = 0
          · have z1 : (k1 != 0) = false := by simp [hk1]
            have SQ := Lib.hid (P1.out hk1)
            clear P1 hk1
            by_cases hk2 : k2 = 0
            · have z2 : (k2 != 0) = false := by simp [hk2]
              have UQ := Lib.hid (P2.out hk2)
              clear P2 hk2
              have y0 := qa11.cell 0
              have y1 := qa11.cell 1
              have y2 := qa11.cell 2
              go_wp2_with fail
              refine (HCA.out _ hb11').mono ?_
              rintro e w12 ⟨⟨n, e1, rfl, C1⟩, hb12⟩
              have qb12 := qb11.below hb12 qb11.lt
              have hb12' := hb11'.trans (hb12.mono hb11'.size)
              clear y0 y1 y2 z1 z2
              have y0 := qb12.cell 0
              have y1 := qb12.cell 1
              have y2 := qb12.cell 2
              go_wp2_with fail
              refine (HCB.out _ hb12').mono ?_
              rintro e w13 ⟨⟨m, e2, rfl, C2⟩, hb13⟩
              have hb13' := hb12'.trans (hb13.mono hb12'.size)
              have t13 := hb12.trans (hb13.mono hb12.size)
              have r13 := r11.below t13 r11.lt
              clear y0 y1 y2
              have y0 := r13.cell 0
              have y1 := r13.cell 1
              have y2 := r13.cell 2
              go_wp2_with fail
              refine (F1.out _ t13).mono ?_
              rintro e w14 ⟨⟨k, e3, rfl, C3⟩, hb14⟩
              have hb14' := hb13'.trans (hb14.mono hb13'.size)
              have t14 := t13.trans (hb14.mono t13.size)
              have u14 := u11.below t14 u11.lt
              clear y0 y1 y2
              have y0 := u14.cell 0
              have y1 := u14.cell 1
              have y2 := u14.cell 2
              go_wp2_with fail
              refine (F2.out _ t14).mono ?_
              rintro e w15 ⟨⟨u, e4, rfl, C4⟩, hb15⟩
              have hb15' := hb14'.trans (hb15.mono hb14'.size)
              clear y0 y1 y2 F1 F2 HCA HCB hb11' hb12' hb13' hb14' hb12 hb13 hb14 hb15 t13 t14
              by_cases h1 : e1 = 0
              · have z1 : (e1 != 0) = false := by simp [h1]
                by_cases h2 : e2 = 0
                · have z2 : (e2 != 0) = false := by simp [h2]
                  by_cases h3 : e3 = 0
                  · have z3 : (e3 != 0) = false := by simp [h3]
                    by_cases h4 : e4 = 0
                    · have z4 : (e4 != 0) = false := by simp [h4]
                      obtain ⟨p1, p2, p3, p4, p5, p6, p7⟩ := sums_law_end SQ.out UQ.out (C1.out h1) (C2.out h2) (C3.out h3) (C4.out h4)
                      clear h1 h2 h3 h4 C1 C2 C3 C4 SQ UQ
                      have b1 : (n * m == md * k) = true := by simp [p1]
                      have b2 : (u == n * m) = true := by simp [p2]
                      clear p1 p2
                      by_cases g1 : 1073741824 < n
                      · clear b1 b2
                        go_wp2_with fail
                        go_ret
                        exact ⟨rfl, hb15'⟩
                      · by_cases g2 : 1073741824 < m
                        · clear b1 b2
                          go_wp2_with fail
                          go_ret
                          exact ⟨rfl, hb15'⟩
                        · obtain ⟨m1, m2, m3, m4⟩ := sums_bd p3 p4 p5 p6 p7 (by omega) (by omega) (by omega)
                          go_wp2_with fail
                          go_ret
                          exact ⟨rfl, hb15'⟩
                    · have z4 : (e4 != 0) = true := by simp [h4]
                      clear h1 h2 h3 h4
                      go_wp2_with fail
                      go_ret
                      exact ⟨rfl, hb15'⟩
                  · have z3 : (e3 != 0) = true := by simp [h3]
                    clear h1 h2 h3
                    go_wp2_with fail
                    go_ret
                    exact ⟨rfl, hb15'⟩
                · have z2 : (e2 != 0) = true := by simp [h2]
                  clear h1 h2
                  go_wp2_with fail
                  go_ret
                  exact ⟨rfl, hb15'⟩
              · have z1 : (e1 != 0) = true := by simp [h1]
                clear h1
                go_wp2_with fail
                go_ret
                exact ⟨rfl, hb15'⟩
            · have z2 : (k2 != 0) = true := by simp [hk2]
              clear hk2
              go_wp2_with fail
              go_ret
              exact ⟨rfl, hb11'⟩
          · have z1 : (k1 != 0) = true := by simp [hk1]
            clear hk1
            go_wp2_with fail
            go_ret
            exact ⟨rfl, hb11'⟩
      · go_wp2_with fail
        go_ret
        exact ⟨rfl, hb7'⟩
theorem sums_row (vsa vma vsb vmb : Value) (Sa Ma : List Int) (La x : Int) (Sb Mb : List Int) (Lb y md : Int) (w : World) (hSa : Ints w vsa Sa) (hMa : Ints w vma Ma) {X : Prop} (_hx : X) (hSb : Ints w vsb Sb) (hMb : Ints w vmb Mb) {Y Z : Prop} (_hy : Y) (_hz : Z) :
    Calls Try.prog 9 #[.agg #[vsa, vma, .int .i64 La], .int .i64 x, .agg #[vsb, vmb, .int .i64 Lb], .int .i64 y, .int .i64 md] w fun e w' => e = .returned (.bool true) ∧ Below w.heap.size w w' := sums_law vsa vma vsb vmb Sa Ma La x Sb Mb Lb y md w hSa hMa hSb hMb
end Go.Proofs.Ytcjaloddgilnpaa
