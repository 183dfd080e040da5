/- fox.Augment, laurent.Of, word.Exponents. -/
import Derived.Test.YtlbihllmpbhhcaaDoorCoe
import Derived.Test.YtlbihllmpbhhcaaDoorPsu
import Derived.Test.YtlbihllmpbhhcaaDoorMvd
import Derived.Test.YtlbihllmpbhhcaaDoorPsh
import Derived.Test.YtlbihllmpbhhcaaDoorWvl
namespace Go.Proofs.YtlbihllmpbhhcaaDoor
open Go.RowKit
set_option linter.unusedVariables false

theorem lowL_le {l : List (Int × Int)} (h : Srt l) : ∀ t ∈ l, lowL l ≤ t.1 := by
  cases l with
  | nil => intro t h; cases h
  | cons s l =>
    intro t ht
    show s.1 ≤ t.1
    rcases List.mem_cons.1 ht with rfl | ht
    · omega
    · have := (List.pairwise_cons.1 h).1 t ht; omega
theorem highL_ge {l : List (Int × Int)} (h : Srt l) : ∀ t ∈ l, t.1 ≤ highL l := by
  intro t ht
  have h0 : 0 < l.length := List.length_pos_of_mem ht
  rw [highL_0 h0]
  obtain ⟨i, hi, rfl⟩ := List.getElem_of_mem ht
  by_cases e : i = l.length - 1
  · subst e; exact Int.le_refl _
  · have := List.pairwise_iff_getElem.1 h i (l.length - 1) hi (by omega) (by omega); omega
theorem lowhigh {l : List (Int × Int)} (h : Srt l) : lowL l ≤ highL l := by
  cases l with
  | nil => exact Int.le_refl _
  | cons s l => exact highL_ge h s (List.mem_cons_self ..)
theorem lowL_bd {l : List (Int × Int)} (h : Lim l) : -1048576 ≤ lowL l ∧ lowL l ≤ 1048576 := by
  cases l with
  | nil => exact ⟨by decide, by decide⟩
  | cons s l => exact h.ex s (List.mem_cons_self ..)
theorem highL_bd {l : List (Int × Int)} (h : Lim l) : -1048576 ≤ highL l ∧ highL l ≤ 1048576 := by
  rcases Nat.eq_zero_or_pos l.length with h0 | h0
  · rw [List.eq_nil_of_length_eq_zero h0]; exact ⟨by decide, by decide⟩
  · rw [highL_0 h0]; exact h.ex _ (List.getElem_mem _)
set_option maxHeartbeats 2000000 in
set_option maxRecDepth 100000 in
theorem Augment_any (vp : Value) (p : Pol) (w : World) (hp : PolyV w vp p) (okp : okP p) (hB : asum (p.getD []) ≤ 4611686018427387904) : Calls Tryd.prog 28 #[vp] w fun e w' => e = .returned (.int .i64 (sumC (p.getD []))) ∧ Below w.heap.size w w' := by
  have hsl : Srt (p.getD []) ∧ Lim (p.getD []) := by
    cases p with
    | none => exact ⟨List.Pairwise.nil, Lim.nil⟩
    | some l => exact ⟨okp.1.srt, okp.2⟩
  obtain ⟨hsr, hlm⟩ := hsl
  have HL := Lib.hid (fun W (hb : Below w.heap.size w W) => Low_any vp p W (hp.below hb) okp)
  have HH := Lib.hid (fun W (hb : Below w.heap.size w W) => High_any vp p W (hp.below hb) okp)
  have HC := Lib.hid (fun e W (hb : Below w.heap.size w W) => Coef_any vp p e W (hp.below hb) okp)
  obtain ⟨b1, A, n, c, rfl, j1, j2⟩ := hp.parts
  clear hp okp j1 j2
  generalize p.getD [] = l at *
  obtain ⟨hl1, hl2⟩ := lowL_bd hlm
  obtain ⟨hh1, hh2⟩ := highL_bd hlm
  have hlh := lowhigh hsr
  have HP0 := Lib.hid (psum_0 (lowL_le hsr))
  have HP1 := Lib.hid (show psum l (highL l + 1) = sumC l from psum_all (fun t ht => by have := highL_ge hsr t ht; omega))
  have HPB := Lib.hid (fun e => psum_bd l e)
  have HPS := Lib.hid (psum_succ l)
  clear hsr hlm
  generalize sumC l = S at *
  generalize lowL l = lo at *
  generalize highL l = hi at *
  generalize asum l = N at *
  have hb : Below w.heap.size w (w.alloc (.cells #[.bool b1, .slice A n c] 27)) := (Below.refl _ _).alloc (Nat.le_refl _) _
  have qp := Arr.new w 27 [.bool b1, .slice A n c]
  change Arr (w.alloc (.cells #[.bool b1, .slice A n c] 27)) w.heap.size 27 [.bool b1, .slice A n c] at qp
  go_enter Tryd.func28, Tryd.ntmps28
  go_upto_region 2 with fail
  generalize (w.alloc (.cells #[.bool b1, .slice A n c] 27)) = w3 at *
  have y0 := qp.cell 0
  have y1 := qp.cell 1
  have HQ := Lib.hid qp
  have HB3 := Lib.hid hb
  have HL3 := Lib.hid (HL.out w3 hb)
  clear qp hb HL
  go_wp2_with fail
  refine HL3.out.mono ?_
  rintro e w4 ⟨rfl, hb4⟩
  have hx4 : Arr w4 w.heap.size 27 [.bool b1, .slice A n c] ∧ Below w.heap.size w w4 := ⟨HQ.out.below hb4 HQ.out.lt, HB3.out.trans (hb4.mono HB3.out.size)⟩
  clear y0 y1 hb4 HL3
  go_wp2_with fail
  go_loopg [3, 4] (hi + 1 - lo).toNat (fun gk s3 s4 wr => ∃ e T : Int, lo ≤ e ∧ e ≤ hi + 1 ∧ gk = (hi + 1 - e).toNat ∧ s4 = .int .i64 e ∧ s3 = .int .i64 T ∧ Hid (T = psum l e) ∧ (-(N : Int) ≤ T ∧ T ≤ N) ∧ Arr wr w.heap.size 27 [.bool b1, .slice A n c] ∧ Below w.heap.size w wr)
  case atStart => exact ⟨lo, 0, Int.le_refl _, by omega, rfl, rfl, rfl, Lib.hid HP0.out.symm, by omega, hx4.1, hx4.2⟩
  case round =>
    clear hx4
    obtain ⟨e, T, he1, he2, rfl, rfl, rfl, HT, hT, qr, hbr⟩ := hrel
    have y0 := qr.cell 0
    have y1 := qr.cell 1
    have HQR := Lib.hid qr
    have HBR := Lib.hid hbr
    have HHR := Lib.hid (HH.out wr hbr)
    clear qr hbr
    go_wp2_with fail
    refine HHR.out.mono ?_
    rintro en w5 ⟨rfl, hb5⟩
    have q5 := HQR.out.below hb5 HQR.out.lt
    have HB5 := Lib.hid (HBR.out.trans (hb5.mono HBR.out.size))
    clear hb5 HHR
    by_cases hlt : e ≤ hi
    · have y0 := q5.cell 0
      have y1 := q5.cell 1
      have HQ5 := Lib.hid q5
      have HC5 := Lib.hid (HC.out e w5 HB5.out)
      have HN := Lib.hid (show psum l (e + 1) = T + cf l e from by rw [HPS.out, HT.out])
      have hbn := HPB.out (e + 1)
      rw [HN.out] at hbn
      clear q5 HT
      generalize cf l e = ce at *
      go_wp2_with fail
      refine HC5.out.mono ?_
      rintro en w6 ⟨rfl, hb6⟩
      have q6 := HQ5.out.below hb6 HQ5.out.lt
      have HB6 := Lib.hid (HB5.out.trans (hb6.mono HB5.out.size))
      have HQ6 := Lib.hid q6
      clear hb6 q6
      go_wp2_with fail
      go_roundg ((hi + 1 - (e + 1)).toNat)
      case measure => omega
      case rel => exact ⟨e + 1, T + ce, by omega, by omega, rfl, rfl, rfl, Lib.hid HN.out.symm, hbn, HQ6.out, HB6.out⟩
    · have HE := Lib.hid (show S = T from by
        have : e = hi + 1 := by omega
        rw [HT.out, this, HP1.out])
      clear HT
      go_wp2_with fail
      go_ret
      exact ⟨by rw [HE.out]; rfl, HB5.out⟩
end Go.Proofs.YtlbihllmpbhhcaaDoor
