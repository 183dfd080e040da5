/- FoxRows: the sum of a row, plain. -/
/- law23.awake: the example of the chapter. -/
/- unravelref22.Arcs. -/
/- wirtinger.Arcs, unravelref27.Arcs. -/
import Derived.Test.YtlbihllmpbhhcaaDoorZWof
import Derived.Test.YtlbihllmpbhhcaaDoorZMtx
import Derived.Test.YtlbihllmpbhhcaaDoorZAug
import Derived.Test.YtlbihllmpbhhcaaDoorZFde
import Derived.Test.YtlbihllmpbhhcaaDoorZTxt
import Derived.Test.YtlbihllmpbhhcaaDoorZLbw
import Derived.Test.YtlbihllmpbhhcaaDoorZStr
import Derived.Test.YtlbihllmpbhhcaaDoorZAcw
namespace Go.Proofs.YtlbihllmpbhhcaaDoor
open Go.RowKit
set_option linter.unusedVariables false
/-- the sum of the first j derivatives of ws -/
def SumJ (W : World) (v : Value) (n : Nat) (ws : List Int) (j : Nat) : Prop := ∃ r, PolyV W v (some r) ∧ Can r ∧ Lim r ∧ ∀ e, cf r e = psF (List.replicate n 1) ws j e
theorem SumJ.below {W W' : World} {v : Value} {n : Nat} {ws : List Int} {j : Nat} (h : SumJ W v n ws j) (hb : Below W.heap.size W W') : SumJ W' v n ws j := by
  obtain ⟨r, h1, h2⟩ := h
  exact ⟨r, h1.below hb, h2⟩
theorem SumJ.zero (W : World) (n : Nat) (ws : List Int) : SumJ W (.agg #[.bool false, .slice none 0 0]) n ws 0 := ⟨[], PolyV.zero W, Can.nil, Lim.nil, fun _ => rfl⟩
theorem SumJ.keepE {T : TypeId} {W W' : World} {v : Value} {n : Nat} {ws : List Int} {j : Nat} (h : SumJ W v n ws j) (hk : KeepE T W W') (hne : 77 ≠ T) : SumJ W' v n ws j := by
  obtain ⟨r, h1, h2⟩ := h
  exact ⟨r, h1.keepE hk hne, h2⟩
theorem SumJ.nil {W : World} {v : Value} {n : Nat} {ws : List Int} (h : SumJ W v n ws n) (hr : RelIs n ws) : PolyV W v (some []) := by
  obtain ⟨r, h1, h2, h3, h4⟩ := h
  have : r = [] := h2.ext Can.nil fun e => by rw [h4, psF_rel hr, cf_nil]
  rwa [this] at h1
theorem psF_rel_bd {n : Nat} {ws : List Int} (hr : RelIs n ws) (hn : n ≤ 1000) {j : Nat} (hj : j ≤ n) (e : Int) : -1125899906842624 ≤ psF (List.replicate n 1) ws j e ∧ psF (List.replicate n 1) ws j e ≤ 1125899906842624 := by
  have h1 := psF_bd (List.replicate n 1) ws j e
  have h2 := hr.len
  have h3 : j * ws.length ≤ 1000 * 4 := Nat.mul_le_mul (by omega) h2
  omega
theorem sum_add {n : Nat} {ws : List Int} (hr : RelIs n ws) (hn : n ≤ 1000) {j : Nat} (hj : j < n) (vp vq : Value) (W : World) (h1 : SumJ W vp n ws j) (h2 : ∃ r, PolyV W vq (some r) ∧ Can r ∧ Lim r ∧ ∀ e, cf r e = dF (List.replicate n 1) (j : Int) ws e) :
    Calls Tryd.prog 23 #[vp, vq] W fun e w' => ∃ (b : Bool) (A : Option Addr) (m c : Nat), e = .returned (.agg #[.bool b, .slice A m c]) ∧ SumJ w' (.agg #[.bool b, .slice A m c]) n ws (j + 1) ∧ Below W.heap.size W w' := by
  obtain ⟨p, p1, p2, p3, p4⟩ := h1
  obtain ⟨q, q1, q2, q3, q4⟩ := h2
  refine (Add_any vp vq (some p) (some q) W p1 q1 ⟨p2, p3⟩ ⟨q2, q3⟩).mono ?_
  rintro e w' ⟨v, r, rfl, hv, hc, hb⟩
  have hs : ∀ e, cf p e + cf q e = psF (List.replicate n 1) ws (j + 1) e := fun e => by rw [p4, q4, psF]
  rcases hc with ⟨l, rfl, l1, l2, l3⟩ | ⟨rfl, e, he⟩
  · obtain ⟨b, A, m, c, rfl, -, -⟩ := hv.parts
    exact ⟨b, A, m, c, rfl, ⟨l, hv, l1, l2, fun e => (l3 e).trans (hs e)⟩, hb⟩
  · exact absurd (by have := psF_rel_bd hr hn (show j + 1 ≤ n by omega) e; have h := hs e; simp only; omega) he
theorem aug_rel {n : Nat} {ws : List Int} (hr : RelIs n ws) (hn : n ≤ 1000) (j : Nat) (vq : Value) (W : World) (h2 : ∃ r, PolyV W vq (some r) ∧ Can r ∧ Lim r ∧ ∀ e, cf r e = dF (List.replicate n 1) (j : Int) ws e) :
    Calls Tryd.prog 28 #[vq] W fun e w' => e = .returned (.int .i64 (expo (j : Int) ws)) ∧ Below W.heap.size W w' := by
  obtain ⟨q, q1, q2, q3, q4⟩ := h2
  have hb : ∀ t ∈ q, t.2.natAbs ≤ 4 := fun t ht => by
    have h1 := cf_mem q2.srt ht
    rw [q4] at h1
    have h2 := dF_bd (List.replicate n 1) (j : Int) ws t.1
    have h3 := hr.len
    omega
  have h1 := asum_le hb
  have h3 := q3.len q2
  have hs : sumC q = expo (j : Int) ws := by
    rw [← sumC_drv (List.replicate n 1) (j : Int) ws 0]
    exact sumC_cf q4
  have h := Augment_any vq (some q) W q1 ⟨q2, q3⟩ (by simp only [Option.getD_some]; omega)
  simp only [Option.getD_some] at h
  rw [hs] at h
  exact h
theorem plN_case {a b : Int} {j : Nat} {E : Int} (hE : E = (if a - 1 = (j : Int) then 1 else 0) - (if b - 1 = (j : Int) then 1 else 0)) :
    (E = 0 ∧ plN a b (j + 1) = plN a b j ∧ plN b a (j + 1) = plN b a j) ∨ (E = 1 ∧ plN a b (j + 1) = plN a b j + 1 ∧ plN b a (j + 1) = plN b a j) ∨ (E = -1 ∧ plN a b (j + 1) = plN a b j ∧ plN b a (j + 1) = plN b a j + 1) := by
  rw [plN_step, plN_step]
  subst hE
  by_cases h1 : a - 1 = (j : Int) <;> by_cases h2 : b - 1 = (j : Int)
  · obtain rfl : a = b := by omega
    left; simp
  · right; left; simp [h1, h2]; omega
  · right; right; simp [h1, h2]; omega
  · left; simp [h1, h2]
/-- the number of 1 and of -1 among the first exponents of ws -/
def PmN (n : Nat) (ws : List Int) (j : Nat) (P Q : Int) : Prop := ∃ a b : Int, (1 ≤ a ∧ a ≤ n) ∧ (1 ≤ b ∧ b ≤ n) ∧ (∀ g : Int, expo g ws = (if a - 1 = g then 1 else 0) - (if b - 1 = g then 1 else 0)) ∧ P = plN a b j ∧ Q = plN b a j
theorem PmN.start {n : Nat} {ws : List Int} (h : RelIs n ws) : PmN n ws 0 0 0 := by
  obtain ⟨σ, a, b, o, ha, hb, ho, rfl⟩ := h
  exact ⟨a, b, ha, hb, expo_rel ha hb ho, by unfold plN; rw [if_neg (by omega)], by unfold plN; rw [if_neg (by omega)]⟩
theorem PmN.bd {n j : Nat} {ws : List Int} {P Q : Int} (h : PmN n ws j P Q) : (0 ≤ P ∧ P ≤ 1) ∧ 0 ≤ Q ∧ Q ≤ 1 := by
  obtain ⟨a, b, -, -, -, rfl, rfl⟩ := h
  exact ⟨plN_le a b j, plN_le b a j⟩
theorem PmN.step {n j : Nat} {ws : List Int} {P Q : Int} (h : PmN n ws j P Q) : (expo (j : Int) ws = 0 ∧ PmN n ws (j + 1) P Q) ∨ (expo (j : Int) ws = 1 ∧ PmN n ws (j + 1) (P + 1) Q) ∨ (expo (j : Int) ws = -1 ∧ PmN n ws (j + 1) P (Q + 1)) := by
  obtain ⟨a, b, ha, hb, he, rfl, rfl⟩ := h
  rcases plN_case (he (j : Int)) with ⟨h1, h2, h3⟩ | ⟨h1, h2, h3⟩ | ⟨h1, h2, h3⟩
  · exact .inl ⟨h1, a, b, ha, hb, he, h2.symm, h3.symm⟩
  · exact .inr (.inl ⟨h1, a, b, ha, hb, he, h2.symm, h3.symm⟩)
  · exact .inr (.inr ⟨h1, a, b, ha, hb, he, h2.symm, h3.symm⟩)
theorem PmN.fin {n : Nat} {ws : List Int} {P Q : Int} (h : PmN n ws n P Q) : P = Q := by
  obtain ⟨a, b, ha, hb, he, rfl, rfl⟩ := h
  exact plN_all ha hb
end Go.Proofs.YtlbihllmpbhhcaaDoor

namespace Go.Proofs.YtlbihllmpbhhcaaDoor
open Go.RowKit
set_option linter.unusedVariables false

theorem awk_p {r : List (Int × Int)} (hc : Can r) (hx : ∀ x, cf r x = if errD [1, 2, -1, -2] [1, 1] 0 = 0 then dF [1, 1] 0 [1, 2, -1, -2] x else 0) : r = [(0, 1), (1, -1)] := by
  refine Can.ext hc ⟨by unfold Srt; simp, by simp⟩ (fun e => ?_)
  rw [hx, if_pos (by decide)]
  rfl
theorem awk_q {r : List (Int × Int)} (hc : Can r) (hx : ∀ x, cf r x = if errD [1, 2, -1, -2] [1, 1] 1 = 0 then dF [1, 1] 1 [1, 2, -1, -2] x else 0) : r = [(0, -1), (1, 1)] := by
  refine Can.ext hc ⟨by unfold Srt; simp, by simp⟩ (fun e => ?_)
  rw [hx, if_pos (by decide)]
  exact cf_perm (List.Perm.swap ..) e
theorem awk_tp : (⟨(txt [116] (some [(0, 1), (1, -1)])).toArray⟩ : ByteArray) = ⟨#[49, 45, 116]⟩ := by decide +kernel
theorem awk_tq : (⟨(txt [116] (some [(0, -1), (1, 1)])).toArray⟩ : ByteArray) = ⟨#[45, 49, 43, 116]⟩ := by decide +kernel
/-- Derivative's result where there is no error -/
structure DerOk (ws comp : List Int) (gen : Int) (w : World) (v : Value) (r : List (Int × Int)) (w' : World) : Prop where
  bel : Below w.heap.size w w'
  val : PolyV w' v (some r)
  can : Can r
  lim : Lim r
  eq : ∀ x, cf r x = dF comp gen ws x
theorem Derivative_ok (vw vc : Value) (ws comp : List Int) (gen : Int) (w : World) (hw : Ints w vw ws) (hc : Ints w vc comp) (hl : ws.length ≤ 1000) (hcl : comp.length ≤ 1000000) (hf : fitB ws comp gen = true) :
    Calls Tryd.prog 11 #[vw, .int .i64 gen, vc] w fun e w' => ∃ b A n c r, e = .returned (.tuple #[.agg #[.bool b, .slice A n c], .int .i64 0]) ∧ DerOk ws comp gen w (.agg #[.bool b, .slice A n c]) r w' := by
  refine (Derivative_any vw vc ws comp gen w hw hc (by omega) hcl).mono ?_
  rintro e w' ⟨hb, v, r, rfl, hv, hcn, hli, hx⟩
  have he : errD ws comp gen = 0 := by rw [errD_ok hf, if_neg (by omega)]
  obtain ⟨b, A, n, c, rfl, _, _⟩ := hv.parts
  refine ⟨b, A, n, c, r, by rw [he], hb, hv, hcn, hli, fun x => ?_⟩
  rw [hx, if_pos he]
theorem PolyV.boxed {w : World} {v : Value} {p : Pol} (h : PolyV w v p) (o : Obj) : PolyV (w.alloc o) v p := h.below ((Below.refl _ _).alloc (Nat.le_refl _) _)
theorem DerOk.okp {ws comp : List Int} {gen : Int} {w w' : World} {v : Value} {r : List (Int × Int)} (h : DerOk ws comp gen w v r w') : okP (some r) := ⟨h.can, h.lim⟩
set_option maxHeartbeats 1000000 in
set_option maxRecDepth 100000 in
theorem awakeF_any (w : World) (ht : Tb w) : Calls Tryd.prog 9 #[] w fun e w' => e = .returned (.bool true) ∧ Below w.heap.size w w' := by
  have HT := Lib.hid ht
  clear ht
  go_enter Tryd.func9, Tryd.ntmps9
  go_upto_region 2 with fail
  have hW : ∀ W, W = w.alloc (.cells #[.int .i64 1, .int .i64 2, .int .i64 (-1), .int .i64 (-2)] 3) → Ints W (.slice (some ⟨w.heap.size, 0, none⟩) 4 4) [1, 2, -1, -2] ∧ Below w.heap.size w W ∧ W.heap.size = w.heap.size + 1 := by
    rintro W rfl
    exact ⟨Ints.of_arr (xs := [1, 2, -1, -2]) (Arr.new w 3 [.int .i64 1, .int .i64 2, .int .i64 (-1), .int .i64 (-2)]), (Below.refl _ _).alloc (Nat.le_refl _) _, by simp⟩
  generalize (w.alloc (.cells #[.int .i64 1, .int .i64 2, .int .i64 (-1), .int .i64 (-2)] 3)) = w1 at hW ⊢
  obtain ⟨hi1, hb1, hs1⟩ := hW w1 rfl
  have HI := Lib.hid hi1
  have HB1 := Lib.hid hb1
  have HS1 := Lib.hid hs1
  clear hW hi1 hb1 hs1
  have HC := Lib.hid (fun W => Ints.of_arr (xs := [1, 1]) (Arr.new W 3 [.int .i64 1, .int .i64 1]))
  have hF0 : fitB [1, 2, -1, -2] [1, 1] 0 = true := by decide
  have hF1 : fitB [1, 2, -1, -2] [1, 1] 1 = true := by decide
  have HD1 := Lib.hid (Derivative_ok (.slice (some ⟨w.heap.size, 0, none⟩) 4 4) (.slice (some ⟨w1.heap.size, 0, none⟩) 2 2) [1, 2, -1, -2] [1, 1] 0 (w1.alloc (.cells #[.int .i64 1, .int .i64 1] 3)) (HI.out.alloc _) (HC.out w1) (by decide) (by decide) hF0)
  have HD2 := Lib.hid (fun W (hb : Below w1.heap.size w1 W) => Derivative_ok (.slice (some ⟨w.heap.size, 0, none⟩) 4 4) (.slice (some ⟨W.heap.size, 0, none⟩) 2 2) [1, 2, -1, -2] [1, 1] 1 (W.alloc (.cells #[.int .i64 1, .int .i64 1] 3)) ((HI.out.below hb).alloc _) (HC.out W) (by decide) (by decide) hF1)
  clear hF0 hF1
  go_wp2_with fail
  refine HD1.out.mono ?_
  rintro e w2 ⟨b1, A1, n1, c1, r1, rfl, hd1⟩
  go_upto_region 3 with fail
  have HV1 := Lib.hid hd1
  have hb2 : Below w1.heap.size w1 w2 := ((Below.refl _ _).alloc (Nat.le_refl _) _).trans (hd1.bel.mono (by simp))
  have hW : ∀ W, W = w2.alloc (.cells #[.bool b1, .slice A1 n1 c1] 27) → Arr W w2.heap.size 27 [.bool b1, .slice A1 n1 c1] ∧ Below w1.heap.size w1 W ∧ Below w2.heap.size w2 W ∧ W.heap.size = w2.heap.size + 1 := by
    rintro W rfl
    exact ⟨Arr.new _ _ [_, _], hb2.alloc hb2.size _, (Below.refl _ _).alloc (Nat.le_refl _) _, by simp⟩
  generalize (w2.alloc (.cells #[.bool b1, .slice A1 n1 c1] 27)) = w3 at hW ⊢
  obtain ⟨q3, hb3, hb23, hs3⟩ := hW w3 rfl
  have HQ3 := Lib.hid q3
  have HB3 := Lib.hid hb3
  have HB23 := Lib.hid hb23
  have HD3 := Lib.hid (HD2.out w3 hb3)
  have HS3 := Lib.hid hs3
  clear hW q3 hb3 hb23 hd1 hb2 HD2 HD1 hs3
  go_wp2_with fail
  refine HD3.out.mono ?_
  rintro e w4 ⟨b2, A2, n2, c2, r2, rfl, hd2⟩
  go_upto_region 4 with fail
  have HV2 := Lib.hid hd2
  have hb4 : Below w3.heap.size w3 w4 := ((Below.refl _ _).alloc (Nat.le_refl _) _).trans (hd2.bel.mono (by simp))
  have HS4 := Lib.hid hb4.size
  have hW : ∀ W, W = w4.alloc (.cells #[.bool b2, .slice A2 n2 c2] 27) → Arr W w4.heap.size 27 [.bool b2, .slice A2 n2 c2] ∧ Arr W w2.heap.size 27 [.bool b1, .slice A1 n1 c1] ∧ PolyV W (.agg #[.bool b1, .slice A1 n1 c1]) (some r1) ∧ PolyV W (.agg #[.bool b2, .slice A2 n2 c2]) (some r2) ∧ Below w.heap.size w W := by
    rintro W rfl
    exact ⟨Arr.new _ _ [_, _], (HQ3.out.below hb4 (by have := HS3.out; omega)).alloc _, ((HV1.out.val.below HB23.out).below hb4).boxed _, HV2.out.val.boxed _, (HB1.out.trans ((HB3.out.trans (hb4.mono HB3.out.size)).mono HB1.out.size)).alloc (by have := HB1.out.size; have := HB3.out.size; have := HS4.out; omega) _⟩
  generalize (w4.alloc (.cells #[.bool b2, .slice A2 n2 c2] 27)) = w5 at hW ⊢
  obtain ⟨q5, q3, hp1, hp2, hb5⟩ := hW w5 rfl
  have HB5 := Lib.hid hb5
  have hr1 := awk_p HV1.out.can (fun x => by rw [HV1.out.eq x, if_pos (by decide)])
  have hr2 := awk_q HV2.out.can (fun x => by rw [HV2.out.eq x, if_pos (by decide)])
  have HT1 := Lib.hid (Text_any (.agg #[.bool b1, .slice A1 n1 c1]) (some r1) [116] w5 hp1 HV1.out.okp (by decide) (HT.out.below hb5))
  have HT2 := Lib.hid (fun W (hb : Below w5.heap.size w5 W) => Text_any (.agg #[.bool b2, .slice A2 n2 c2]) (some r2) [116] W (hp2.below hb) HV2.out.okp (by decide) (HT.out.below (HB5.out.trans (hb.mono HB5.out.size))))
  rw [hr1, awk_tp] at HT1
  rw [hr2, awk_tq] at HT2
  have HQ3' := Lib.hid q3
  have HQ5 := Lib.hid q5
  have y0 := q3.cell 0
  have y1 := q3.cell 1
  have x0 := q5.cell 0
  have x1 := q5.cell 1
  clear hW hb5 hp1 hp2 hr1 hr2 hb4 hd2 q3 q5 HD3
  go_wp2_with fail
  refine HT1.out.mono ?_
  rintro e w6 ⟨rfl, hb6⟩
  have q6 := HQ5.out.below hb6 HQ5.out.lt
  have x0 := q6.cell 0
  have x1 := q6.cell 1
  have HT3 := Lib.hid (HT2.out w6 hb6)
  have HB6 := Lib.hid (HB5.out.trans (hb6.mono HB5.out.size))
  clear hb6 q6
  go_wp2_with fail
  refine HT3.out.mono ?_
  rintro e w7 ⟨rfl, hb7⟩
  have HB7 := Lib.hid (HB6.out.trans (hb7.mono HB6.out.size))
  clear hb7
  go_wp2_with fail
  go_ret
  exact ⟨rfl, HB7.out⟩
end Go.Proofs.YtlbihllmpbhhcaaDoor

namespace Go.Proofs.YtlbihllmpbhhcaaDoor
open Go.RowKit
set_option linter.unusedVariables false

theorem numA_zero (l : List Nat) (n : Nat) : nc (numA l n 0) = List.replicate n (.int .i64 0) := by
  apply List.ext_getElem?
  intro i
  unfold nc numA
  simp [List.getElem?_replicate]
  by_cases h : i < n <;> simp [h]
theorem labA_idem {M : List Int} {n k : Nat} (hR : Rh M n) (h : k < n) : gn (labA M n n) (gn (labA M n n) k) = gn (labA M n n) k := by
  have h1 := labA_conn hR n k h
  have h2 := labA_least hR h (.refl k)
  have h3 : gn (labA M n n) k < n := by omega
  have h4 := labA_conn hR n _ h3
  have h5 := labA_least hR h3 (.refl _)
  have h6 : gn (labA M n n) (gn (labA M n n) k) < n := by omega
  have h7 := labA_least hR h6 (h4.trans h1)
  omega
theorem turnN_two (h : Nat) : turnN h 2 = opp h := rfl

end Go.Proofs.YtlbihllmpbhhcaaDoor

namespace Go.Proofs.YtlbihllmpbhhcaaDoor
open Go.RowKit
set_option linter.unusedVariables false

/-- the arcs of the half-edges, and how many columns there are -/
def arcL (M : List Int) : List Nat := numA (labA M M.length M.length) M.length M.length
def colN (M : List Int) (L : Int) : Nat := rk (labA M M.length M.length) M.length + L.toNat
theorem valB_ok {S M : List Int} {L : Int} (h : valB S M L = true) : Ok S M L := by
  unfold valB at h
  exact ok_of (Bool.and_eq_true_iff.1 h).1

end Go.Proofs.YtlbihllmpbhhcaaDoor
