/- laurent: Low, High, Coef. -/
import Derived.Test.YtlbihllmpbhhcaaDoorZPad
import Derived.Test.YtlbihllmpbhhcaaDoorShelf
namespace Go.Proofs.YtlbihllmpbhhcaaDoor
open Go.RowKit
set_option linter.unusedVariables false

def lowL (l : List (Int × Int)) : Int := (l.head?.map (·.1)).getD 0
def highL (l : List (Int × Int)) : Int := (l.getLast?.map (·.1)).getD 0
theorem lowL_0 {l : List (Int × Int)} (h : 0 < l.length) : lowL l = l[0].1 := by
  cases l with
  | nil => simp at h
  | cons t l => rfl
theorem highL_0 {l : List (Int × Int)} (h : 0 < l.length) : highL l = (l[l.length - 1]'(by omega)).1 := by
  unfold highL
  rw [List.getLast?_eq_getElem?, List.getElem?_eq_getElem (by omega)]; rfl
set_option maxHeartbeats 1000000 in
theorem Low_any (vp : Value) (p : Pol) (w : World) (hp : PolyV w vp p) (okp : okP p) : Calls Tryd.prog 52 #[vp] w fun e w' => e = .returned (.int .i64 (lowL (p.getD []))) ∧ Below w.heap.size w w' := by
  have hl : (p.getD []).length ≤ 4611686018427387904 := by
    cases p with
    | none => simp
    | some l => have := okp.2.len okp.1; simp only [Option.getD_some]; omega
  obtain ⟨A, c, rfl, hx⟩ := hp
  have HX := Lib.hid (fun W (hb : Below w.heap.size w W) => hx.below hb)
  clear hx okp
  generalize p.isNone = b1 at *
  generalize p.getD [] = l at *
  have hb : Below w.heap.size w (w.alloc (.cells #[.bool b1, .slice A l.length c] 27)) := (Below.refl _ _).alloc (Nat.le_refl _) _
  rcases Nat.eq_zero_or_pos l.length with h0 | h0
  · have z1 : ((l.length : Int) == 0) = true := by rw [beq_iff_eq]; omega
    have HE := Lib.hid (show lowL l = 0 from by rw [List.eq_nil_of_length_eq_zero h0]; rfl)
    clear h0
    go_enter Tryd.func52, Tryd.ntmps52
    go_wp2_with fail
    go_ret
    exact ⟨by rw [HE.out]; rfl, hb⟩
  · have z1 : ((l.length : Int) == 0) = false := by rw [beq_eq_false_iff_ne]; omega
    have HE := Lib.hid (lowL_0 h0)
    obtain ⟨b, o, rfl, _, y0, _⟩ := (HX.out _ hb).at_ h0
    simp only [Nat.zero_mul, Nat.add_zero] at y0
    have z2 : (0 : Int) < (l.length : Int) := by omega
    clear HX
    go_enter Tryd.func52, Tryd.ntmps52
    go_wp2_with fail
    go_ret
    exact ⟨by rw [HE.out]; rfl, hb⟩
set_option maxHeartbeats 1000000 in
theorem High_any (vp : Value) (p : Pol) (w : World) (hp : PolyV w vp p) (okp : okP p) : Calls Tryd.prog 53 #[vp] w fun e w' => e = .returned (.int .i64 (highL (p.getD []))) ∧ Below w.heap.size w w' := by
  have hl : (p.getD []).length ≤ 4611686018427387904 := by
    cases p with
    | none => simp
    | some l => have := okp.2.len okp.1; simp only [Option.getD_some]; omega
  obtain ⟨A, c, rfl, hx⟩ := hp
  have HX := Lib.hid (fun W (hb : Below w.heap.size w W) => hx.below hb)
  clear hx okp
  generalize p.isNone = b1 at *
  generalize p.getD [] = l at *
  have hb : Below w.heap.size w (w.alloc (.cells #[.bool b1, .slice A l.length c] 27)) := (Below.refl _ _).alloc (Nat.le_refl _) _
  rcases Nat.eq_zero_or_pos l.length with h0 | h0
  · have z1 : ((l.length : Int) == 0) = true := by rw [beq_iff_eq]; omega
    have HE := Lib.hid (show highL l = 0 from by rw [List.eq_nil_of_length_eq_zero h0]; rfl)
    clear h0
    go_enter Tryd.func53, Tryd.ntmps53
    go_wp2_with fail
    go_ret
    exact ⟨by rw [HE.out]; rfl, hb⟩
  · have z1 : ((l.length : Int) == 0) = false := by rw [beq_eq_false_iff_ne]; omega
    have HE := Lib.hid (highL_0 h0)
    obtain ⟨b, o, rfl, _, y0, _⟩ := (HX.out _ hb).at_ (show l.length - 1 < l.length by omega)
    have HE2 := Lib.hid (show highL l = (l[l.length - 1]).1 from HE.out)
    generalize (l[l.length - 1]).1 = x at *
    obtain ⟨m, hm⟩ : ∃ m : Nat, m = l.length - 1 := ⟨_, rfl⟩
    have e1 : (l.length : Int) - 1 = (m : Int) := by omega
    have z2 : (m : Int) < (l.length : Int) := by omega
    rw [← hm] at y0
    clear HX hm HE
    go_enter Tryd.func53, Tryd.ntmps53
    go_wp2_with fail
    go_ret
    exact ⟨by rw [HE2.out]; rfl, hb⟩
set_option maxHeartbeats 1000000 in
theorem coefclo_any (a b e : Int) (W : World) : Calls Tryd.prog 73 #[.agg #[.int .i64 a, .int .i64 b], .int .i64 e] W fun en w' => en = .returned (.int .i64 (Lib.compareInt a e)) ∧ Below W.heap.size W w' := by
  have hcon := Lib.hid (fun W' => Tryd.cmp_Compare_int a e W')
  obtain ⟨r, hr⟩ : ∃ r, r = Lib.compareInt a e := ⟨_, rfl⟩
  rw [← hr] at hcon ⊢
  clear hr
  go_enter Tryd.func73, Tryd.ntmps73
  go_wp2_with fail
  refine (hcon.out _).mono ?_
  rintro en w' ⟨rfl, rfl⟩
  go_wp2_with fail
  go_ret
  exact ⟨rfl, (Below.refl _ _).alloc (Nat.le_refl _) _⟩
theorem cmpI (a e : Int) : (Lib.compareInt a e < 0 ↔ a < e) ∧ (Lib.compareInt a e = 0 ↔ a = e) ∧ -1 ≤ Lib.compareInt a e ∧ Lib.compareInt a e ≤ 1 := by
  unfold Lib.compareInt
  split
  · simp; omega
  · split <;> simp <;> omega
/-- what the search returns -/
def BsfR (l : List (Int × Int)) (e : Int) (w : World) (en : Ending) (w' : World) : Prop := Below w.heap.size w w' ∧ ∃ (i : Nat) (ok : Bool), en = .returned (.tuple #[.int .i64 (i : Int), .bool ok]) ∧ i ≤ l.length ∧ (ok = true → ∃ h : i < l.length, l[i].1 = e) ∧ (ok = false → cf l e = 0)
set_option maxHeartbeats 2000000 in
set_option maxRecDepth 100000 in
theorem bsf_any (A : Option Addr) (c : Nat) (l : List (Int × Int)) (e : Int) (w : World) (hx : Tms w (.slice A l.length c) l) (kl : Srt l) (hl : l.length ≤ 1000000000) :
    Calls Tryd.prog 72 #[.slice A l.length c, .int .i64 e, .func (.func 73) #[] #[]] w (BsfR l e w) := by
  have HX := Lib.hid (fun W (hb : Below w.heap.size w W) => hx.below hb)
  have HK := Lib.hid kl
  have eg := enters_of Tryd.func73 (by kernel_rfl) rfl
  clear hx kl
  go_enter Tryd.func72, Tryd.ntmps72
  go_wp2_with fail
  go_loopg [9, 10, 11] l.length (fun gk s9 s10 s11 wr => ∃ lo hi : Nat, lo ≤ hi ∧ hi ≤ l.length ∧ gk = hi - lo ∧ s9 = .int .i64 (lo : Int) ∧ s10 = .int .i64 (hi : Int) ∧ Hid ((∀ s ∈ l.take lo, s.1 < e) ∧ ∀ s ∈ l.drop hi, e ≤ s.1) ∧ Below w.heap.size w wr)
  case atStart => exact ⟨0, l.length, Nat.zero_le _, Nat.le_refl _, rfl, rfl, rfl, Lib.hid ⟨fun s h => by simp at h, fun s h => by simp at h⟩, Below.refl _ _⟩
  case round =>
    obtain ⟨lo, hi, hlh, hhi, rfl, rfl, rfl, HI, hbr⟩ := hrel
    by_cases hlt : lo < hi
    · have z1 : (lo : Int) < (hi : Int) := by omega
      obtain ⟨m, hm⟩ : ∃ m : Nat, m = (lo + hi) / 2 := ⟨_, rfl⟩
      have hml : m < l.length := by omega
      have z2 : (m : Int) < (l.length : Int) := by omega
      have z3 : ((lo : Int) + (hi : Int)) / 2 = (m : Int) := by omega
      obtain ⟨b, o, rfl, _, y0, y1⟩ := (HX.out wr hbr).at_ hml
      have HL := Lib.hid (fun (h : l[m].1 < e) => (show ∀ s ∈ l.take (m + 1), s.1 < e from fun s hs => by
        rw [take_snoc' hml] at hs
        rcases List.mem_append.1 hs with hs | hs
        · have := (srt_drop HK.out hml).1 s hs; omega
        · rw [List.mem_singleton.1 hs]; exact h))
      have HR := Lib.hid (fun (h : ¬ l[m].1 < e) => (show ∀ s ∈ l.drop m, e ≤ s.1 from fun s hs => by
        have := srt_ge HK.out hml s hs; omega))
      have HC := Lib.hid (coefclo_any l[m].1 l[m].2 e wr)
      obtain ⟨hc1, hc2, hc3, hc4⟩ := cmpI l[m].1 e
      generalize Lib.compareInt l[m].1 e = r at *
      generalize l[m] = t at *
      obtain ⟨t1, t2⟩ := t
      have hm1 : lo ≤ m := by omega
      have hm2 : m < hi := by omega
      clear hm
      dsimp only at *
      by_cases hr : r < 0
      · have HS := Lib.hid (HL.out (hc1.1 hr))
        clear HL HR hc1 hc2
        go_wp2_with fail
        refine HC.out.mono ?_
        rintro en w4 ⟨rfl, hb4⟩
        go_wp2_with fail
        go_roundg (hi - (m + 1))
        case measure => omega
        case rel => exact ⟨m + 1, hi, by omega, by omega, rfl, by go_num, rfl, Lib.hid ⟨HS.out, HI.out.2⟩, hbr.trans (hb4.mono hbr.size)⟩
      · have HS := Lib.hid (HR.out (fun h => hr (hc1.2 h)))
        clear HL HR hc1 hc2
        go_wp2_with fail
        refine HC.out.mono ?_
        rintro en w4 ⟨rfl, hb4⟩
        go_wp2_with fail
        go_roundg (m - lo)
        case measure => omega
        case rel => exact ⟨lo, m, by omega, by omega, rfl, rfl, rfl, Lib.hid ⟨HI.out.1, HS.out⟩, hbr.trans (hb4.mono hbr.size)⟩
    · have z1 : ¬ (lo : Int) < (hi : Int) := by omega
      obtain rfl : lo = hi := by omega
      by_cases hln : lo < l.length
      · have z2 : (lo : Int) < (l.length : Int) := by omega
        obtain ⟨b, o, rfl, _, y0, y1⟩ := (HX.out wr hbr).at_ hln
        have HC := Lib.hid (coefclo_any l[lo].1 l[lo].2 e wr)
        obtain ⟨hc1, hc2, hc3, hc4⟩ := cmpI l[lo].1 e
        have HN := Lib.hid (fun (h : l[lo].1 ≠ e) => (show cf l e = 0 from by
          refine cf_out fun s hs => ?_
          rw [← List.take_append_drop lo l] at hs
          rcases List.mem_append.1 hs with hs | hs
          · have := HI.out.1 s hs; omega
          · rw [List.drop_eq_getElem_cons hln] at hs
            rcases List.mem_cons.1 hs with rfl | hs
            · exact h
            · have h1 := (srt_drop HK.out hln).2 s hs
              have h2 := HI.out.2 l[lo] (mem_drop_self hln)
              omega))
        obtain ⟨r, hr⟩ : ∃ r, r = Lib.compareInt l[lo].1 e := ⟨_, rfl⟩
        rw [← hr] at HC hc1 hc2 hc3 hc4
        clear hr
        have HT := Lib.hid (fun (h : r = 0) => (show ∃ h : lo < l.length, l[lo].1 = e from ⟨hln, hc2.1 h⟩))
        have HF := Lib.hid (fun (h : r ≠ 0) => HN.out (fun q => h (hc2.2 q)))
        generalize l[lo].1 = t1 at *
        generalize l[lo].2 = t2 at *
        clear HN hc1 hc2 HI
        by_cases hr0 : r = 0
        · have z4 : (r == 0) = true := by simp [hr0]
          have HT2 := Lib.hid (HT.out hr0)
          clear HT HF hr0
          go_wp2_with fail
          refine HC.out.mono ?_
          rintro en w4 ⟨rfl, hb4⟩
          go_wp2_with fail
          go_ret2
          exact ⟨hbr.trans (hb4.mono hbr.size), lo, true, rfl, by omega, fun _ => HT2.out, fun h => by cases h⟩
        · have z4 : (r == 0) = false := by simp [hr0]
          have HF2 := Lib.hid (HF.out hr0)
          clear HT HF hr0
          go_wp2_with fail
          refine HC.out.mono ?_
          rintro en w4 ⟨rfl, hb4⟩
          go_wp2_with fail
          go_ret2
          exact ⟨hbr.trans (hb4.mono hbr.size), lo, false, rfl, by omega, fun h => (by cases h), fun _ => HF2.out⟩
      · have z2 : ¬ (lo : Int) < (l.length : Int) := by omega
        have HF2 := Lib.hid (show cf l e = 0 from cf_out fun s hs => by
          have := HI.out.1 s (by rw [List.take_of_length_le (by omega)]; exact hs); omega)
        clear HI
        go_wp2_with fail
        go_ret2
        exact ⟨hbr, lo, false, rfl, by omega, fun h => (by cases h), fun _ => HF2.out⟩
set_option maxHeartbeats 1000000 in
theorem Coef_any (vp : Value) (p : Pol) (e : Int) (w : World) (hp : PolyV w vp p) (okp : okP p) : Calls Tryd.prog 54 #[vp, .int .i64 e] w fun en w' => en = .returned (.int .i64 (cf (p.getD []) e)) ∧ Below w.heap.size w w' := by
  have hl : (p.getD []).length ≤ 1000000000 ∧ Srt (p.getD []) := by
    cases p with
    | none => exact ⟨by simp, List.Pairwise.nil⟩
    | some l => have := okp.2.len okp.1; simp only [Option.getD_some]; exact ⟨by omega, okp.1.srt⟩
  obtain ⟨hl, hsr⟩ := hl
  have HSR := Lib.hid hsr
  obtain ⟨A, c, rfl, hx⟩ := hp
  have HX := Lib.hid (fun W (hb : Below w.heap.size w W) => hx.below hb)
  clear hx okp hsr
  generalize p.isNone = b1 at *
  generalize p.getD [] = l at *
  have hb : Below w.heap.size w (w.alloc (.cells #[.bool b1, .slice A l.length c] 27)) := (Below.refl _ _).alloc (Nat.le_refl _) _
  have qp := Arr.new w 27 [.bool b1, .slice A l.length c]
  change Arr (w.alloc (.cells #[.bool b1, .slice A l.length c] 27)) w.heap.size 27 [.bool b1, .slice A l.length c] at qp
  go_enter Tryd.func54, Tryd.ntmps54
  go_upto_region 1 with fail
  generalize (w.alloc (.cells #[.bool b1, .slice A l.length c] 27)) = w3 at *
  have y1 := qp.cell 1
  have HQ := Lib.hid qp
  have HBS := Lib.hid (bsf_any A c l e w3 (HX.out w3 hb) HSR.out hl)
  have HB := Lib.hid hb
  clear qp hb
  go_wp2_with fail
  refine HBS.out.mono ?_
  rintro en w4 ⟨hb4, i, ok, rfl, hi, h1, h2⟩
  have qp := HQ.out.below hb4 HQ.out.lt
  have y1 := qp.cell 1
  have HB4 := Lib.hid (HB.out.trans (hb4.mono HB.out.size))
  have HX4 := Lib.hid (HX.out w4 HB4.out)
  clear hb4 qp HBS
  cases ok with
  | false =>
    have HE := Lib.hid (h2 rfl)
    clear h1 h2
    go_wp2_with fail
    go_ret
    exact ⟨by rw [HE.out]; rfl, HB4.out⟩
  | true =>
    obtain ⟨hil, hie⟩ := h1 rfl
    have HE := Lib.hid (show cf l e = l[i].2 from by rw [← hie]; exact cf_mem HSR.out (List.getElem_mem hil))
    obtain ⟨b, o, rfl, _, y2, y3⟩ := HX4.out.at_ hil
    have z1 : (i : Int) < (l.length : Int) := by omega
    clear h1 h2 hie y2
    generalize l[i].2 = x at *
    go_wp2_with fail
    go_ret
    exact ⟨by rw [HE.out]; rfl, HB4.out⟩
end Go.Proofs.YtlbihllmpbhhcaaDoor
