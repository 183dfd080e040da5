/- laurent's Text. -/
/- laurent: Low, High, Coef. -/
/- fox.sum: the closure part. -/
/- XPhx with an append before the store. -/
import Derived.Test.YtnmidhlghhephaaGreatDoorWwEnd
import Derived.Test.YtnmidhlghhephaaGreatDoorWwEql
import Derived.Lib.AppendIntMem
import Derived.Lib.ItoaLen
import Derived.Deep.CutRange
import Derived.Test.YtnmidhlghhephaaGreatDoorWwShelf
namespace Go.Proofs.YtnmidhlghhephaaGreatDoor
open Go.RowKit
set_option linter.unusedVariables false
/-- the table of the powers of ten is laid -/
def Tb (w : World) : Prop := Lib.TabIs Tryz.prog w "internal/strconv.uint64pow10" .u64 Lib.pow10Tab
theorem Tb.below {w w' : World} (h : Tb w) (hb : Below w.heap.size w w') : Tb w' := by
  unfold Tb Lib.TabIs World.var? at h ⊢
  cases hg : Tryz.prog.globalNamed "internal/strconv.uint64pow10" with
  | none => rw [hg] at h; simp at h
  | some g =>
  rw [hg] at h
  simp only [Option.bind_some] at h ⊢
  have hlt : g < w.heap.size := by
    rcases Nat.lt_or_ge g w.heap.size with q | q
    · exact q
    · rw [Array.getElem?_eq_none q] at h; cases h
  rw [hb.block g hlt]
  exact h
theorem itoa_any (n : Int) (h0 : -9223372036854775808 ≤ n) (h1 : n ≤ 9223372036854775807) (w : World) (ht : Tb w) :
    Calls Tryz.prog 43 #[.int .i64 n] w fun e w' => e = .returned (.string ⟨(Lib.itoa n).toArray⟩) ∧ Below w.heap.size w w' :=
  Calls.mono (Tryz.strconv_Itoa n h0 h1 w ht) (by
    rintro e w' ⟨rfl, k, os, rfl⟩
    exact ⟨rfl, Lib.below_grow _ _ (Nat.le_refl _) _ _⟩)
def cabs (c : Int) : Int := if c < 0 then -c else c
def sgT (i : Nat) (c : Int) : List UInt8 := if c < 0 then [45] else if 0 < i then [43] else []
def vaT (nm : List UInt8) (e : Int) : List UInt8 := if e = 0 then [] else nm
def poT (e : Int) : List UInt8 := if e = 0 ∨ e = 1 then [] else 94 :: Lib.itoa e
theorem sgT_len (i : Nat) (c : Int) : (sgT i c).length ≤ 1 := by unfold sgT; split; · simp
                                                                 · split <;> simp
theorem vaT_len {nm : List UInt8} {e : Int} : (vaT nm e).length ≤ nm.length := by unfold vaT; split <;> simp
theorem poT_len {e : Int} (h : -1048576 ≤ e ∧ e ≤ 1048576) : (poT e).length ≤ 22 := by
  unfold poT
  split
  · simp
  · have := Lib.itoa_length_le e (by omega) (by omega)
    rw [List.length_cons]; omega
theorem IsB.below {B b : Nat} {bs : List Value} {w w' : World} (h : IsB B b bs w) (hb : Below w.heap.size w w') : IsB B b bs w' := by
  have key : ∀ p, Lib.BuilderAt 80 5 B b p bs w → Lib.BuilderAt 80 5 B b p bs w' := by
    rintro p ⟨h1, v, h2, h3, h4⟩
    refine ⟨h1, v, (hb.block b (bld_lt h2)).trans h2, ⟨h3.1, ?_⟩, h4⟩
    rcases h3.2 with h0 | ⟨k, cap, cur, rfl, hg, hh, r⟩
    · exact .inl h0
    · exact .inr ⟨k, cap, cur, rfl, hg, (hb.block k (bld_lt hh)).trans hh, r⟩
  rcases h with h | h
  · exact .inl (key _ h)
  · exact .inr (key _ h)
end Go.Proofs.YtnmidhlghhephaaGreatDoor

namespace Go.Proofs.YtnmidhlghhephaaGreatDoor
open Go.RowKit
set_option linter.unusedVariables false
def lowL (l : List (Int × Int)) : Int := (l.head?.map (·.1)).getD 0
def highL (l : List (Int × Int)) : Int := (l.getLast?.map (·.1)).getD 0
theorem lowL_0 {l : List (Int × Int)} (h : 0 < l.length) : lowL l = l[0].1 := by
  cases l with
  | nil => simp at h
  | cons t l => rfl
theorem highL_0 {l : List (Int × Int)} (h : 0 < l.length) : highL l = (l[l.length - 1]'(by omega)).1 := by
  unfold highL
  rw [List.getLast?_eq_getElem?, List.getElem?_eq_getElem (by omega)]; rfl
set_option maxHeartbeats 1000000 in
theorem Low_any (vp : Value) (p : Pol) (w : World) (hp : PolyV w vp p) (okp : okP p) : Calls Tryz.prog 24 #[vp] w fun e w' => e = .returned (.int .i64 (lowL (p.getD []))) ∧ Below w.heap.size w w' := by
  have hl : (p.getD []).length ≤ 4611686018427387904 := by
    cases p with
    | none => simp
    | some l => have := okp.2.len okp.1; simp only [Option.getD_some]; omega
  obtain ⟨A, c, rfl, hx⟩ := hp
  have HX := Lib.hid (fun W (hb : Below w.heap.size w W) => hx.below hb)
  clear hx okp
  generalize p.isNone = b1 at *
  generalize p.getD [] = l at *
  have hb : Below w.heap.size w (w.alloc (.cells #[.bool b1, .slice A l.length c] 34)) := (Below.refl _ _).alloc (Nat.le_refl _) _
  rcases Nat.eq_zero_or_pos l.length with h0 | h0
  · have z1 : ((l.length : Int) == 0) = true := by rw [beq_iff_eq]; omega
    have HE := Lib.hid (show lowL l = 0 from by rw [List.eq_nil_of_length_eq_zero h0]; rfl)
    clear h0
    go_enter Tryz.func24, Tryz.ntmps24
    go_wp2_with fail
    go_ret
    exact ⟨by rw [HE.out]; rfl, hb⟩
  · have z1 : ((l.length : Int) == 0) = false := by rw [beq_eq_false_iff_ne]; omega
    have HE := Lib.hid (lowL_0 h0)
    obtain ⟨b, o, rfl, _, y0, _⟩ := (HX.out _ hb).at_ h0
    simp only [Nat.zero_mul, Nat.add_zero] at y0
    have z2 : (0 : Int) < (l.length : Int) := by omega
    clear HX
    go_enter Tryz.func24, Tryz.ntmps24
    go_wp2_with fail
    go_ret
    exact ⟨by rw [HE.out]; rfl, hb⟩
set_option maxHeartbeats 1000000 in
theorem High_any (vp : Value) (p : Pol) (w : World) (hp : PolyV w vp p) (okp : okP p) : Calls Tryz.prog 25 #[vp] w fun e w' => e = .returned (.int .i64 (highL (p.getD []))) ∧ Below w.heap.size w w' := by
  have hl : (p.getD []).length ≤ 4611686018427387904 := by
    cases p with
    | none => simp
    | some l => have := okp.2.len okp.1; simp only [Option.getD_some]; omega
  obtain ⟨A, c, rfl, hx⟩ := hp
  have HX := Lib.hid (fun W (hb : Below w.heap.size w W) => hx.below hb)
  clear hx okp
  generalize p.isNone = b1 at *
  generalize p.getD [] = l at *
  have hb : Below w.heap.size w (w.alloc (.cells #[.bool b1, .slice A l.length c] 34)) := (Below.refl _ _).alloc (Nat.le_refl _) _
  rcases Nat.eq_zero_or_pos l.length with h0 | h0
  · have z1 : ((l.length : Int) == 0) = true := by rw [beq_iff_eq]; omega
    have HE := Lib.hid (show highL l = 0 from by rw [List.eq_nil_of_length_eq_zero h0]; rfl)
    clear h0
    go_enter Tryz.func25, Tryz.ntmps25
    go_wp2_with fail
    go_ret
    exact ⟨by rw [HE.out]; rfl, hb⟩
  · have z1 : ((l.length : Int) == 0) = false := by rw [beq_eq_false_iff_ne]; omega
    have HE := Lib.hid (highL_0 h0)
    obtain ⟨b, o, rfl, _, y0, _⟩ := (HX.out _ hb).at_ (show l.length - 1 < l.length by omega)
    have HE2 := Lib.hid (show highL l = (l[l.length - 1]).1 from HE.out)
    generalize (l[l.length - 1]).1 = x at *
    obtain ⟨m, hm⟩ : ∃ m : Nat, m = l.length - 1 := ⟨_, rfl⟩
    have e1 : (l.length : Int) - 1 = (m : Int) := by omega
    have z2 : (m : Int) < (l.length : Int) := by omega
    rw [← hm] at y0
    clear HX hm HE
    go_enter Tryz.func25, Tryz.ntmps25
    go_wp2_with fail
    go_ret
    exact ⟨by rw [HE2.out]; rfl, hb⟩
set_option maxHeartbeats 1000000 in
theorem coefclo_any (a b e : Int) (W : World) : Calls Tryz.prog 71 #[.agg #[.int .i64 a, .int .i64 b], .int .i64 e] W fun en w' => en = .returned (.int .i64 (Lib.compareInt a e)) ∧ Below W.heap.size W w' := by
  have hcon := Lib.hid (fun W' => Tryz.cmp_Compare_int a e W')
  obtain ⟨r, hr⟩ : ∃ r, r = Lib.compareInt a e := ⟨_, rfl⟩
  rw [← hr] at hcon ⊢
  clear hr
  go_enter Tryz.func71, Tryz.ntmps71
  go_wp2_with fail
  refine (hcon.out _).mono ?_
  rintro en w' ⟨rfl, rfl⟩
  go_wp2_with fail
  go_ret
  exact ⟨rfl, (Below.refl _ _).alloc (Nat.le_refl _) _⟩
theorem cmpI (a e : Int) : (Lib.compareInt a e < 0 ↔ a < e) ∧ (Lib.compareInt a e = 0 ↔ a = e) ∧ -1 ≤ Lib.compareInt a e ∧ Lib.compareInt a e ≤ 1 := by
  unfold Lib.compareInt
  split
  · simp; omega
  · split <;> simp <;> omega
/-- what the search returns -/
def BsfR (l : List (Int × Int)) (e : Int) (w : World) (en : Ending) (w' : World) : Prop := Below w.heap.size w w' ∧ ∃ (i : Nat) (ok : Bool), en = .returned (.tuple #[.int .i64 (i : Int), .bool ok]) ∧ i ≤ l.length ∧ (ok = true → ∃ h : i < l.length, l[i].1 = e) ∧ (ok = false → cf l e = 0)
set_option maxHeartbeats 2000000 in
set_option maxRecDepth 100000 in
theorem bsf_any (A : Option Addr) (c : Nat) (l : List (Int × Int)) (e : Int) (w : World) (hx : Tms w (.slice A l.length c) l) (kl : Srt l) (hl : l.length ≤ 1000000000) :
    Calls Tryz.prog 70 #[.slice A l.length c, .int .i64 e, .func (.func 71) #[] #[]] w (BsfR l e w) := by
  have HX := Lib.hid (fun W (hb : Below w.heap.size w W) => hx.below hb)
  have HK := Lib.hid kl
  have eg := enters_of Tryz.func71 (by kernel_rfl) rfl
  clear hx kl
  go_enter Tryz.func70, Tryz.ntmps70
  go_wp2_with fail
  go_loopg [9, 10, 11] l.length (fun gk s9 s10 s11 wr => ∃ lo hi : Nat, lo ≤ hi ∧ hi ≤ l.length ∧ gk = hi - lo ∧ s9 = .int .i64 (lo : Int) ∧ s10 = .int .i64 (hi : Int) ∧ Hid ((∀ s ∈ l.take lo, s.1 < e) ∧ ∀ s ∈ l.drop hi, e ≤ s.1) ∧ Below w.heap.size w wr)
  case atStart => exact ⟨0, l.length, Nat.zero_le _, Nat.le_refl _, rfl, rfl, rfl, Lib.hid ⟨fun s h => by simp at h, fun s h => by simp at h⟩, Below.refl _ _⟩
  case round =>
    obtain ⟨lo, hi, hlh, hhi, rfl, rfl, rfl, HI, hbr⟩ := hrel
    by_cases hlt : lo < hi
    · have z1 : (lo : Int) < (hi : Int) := by omega
      obtain ⟨m, hm⟩ : ∃ m : Nat, m = (lo + hi) / 2 := ⟨_, rfl⟩
      have hml : m < l.length := by omega
      have z2 : (m : Int) < (l.length : Int) := by omega
      have z3 : ((lo : Int) + (hi : Int)) / 2 = (m : Int) := by omega
      obtain ⟨b, o, rfl, _, y0, y1⟩ := (HX.out wr hbr).at_ hml
      have HL := Lib.hid (fun (h : l[m].1 < e) => (show ∀ s ∈ l.take (m + 1), s.1 < e from fun s hs => by
        rw [take_snoc' hml] at hs
        rcases List.mem_append.1 hs with hs | hs
        · have := (srt_drop HK.out hml).1 s hs; omega
        · rw [List.mem_singleton.1 hs]; exact h))
      have HR := Lib.hid (fun (h : ¬ l[m].1 < e) => (show ∀ s ∈ l.drop m, e ≤ s.1 from fun s hs => by
        have := srt_ge HK.out hml s hs; omega))
      have HC := Lib.hid (coefclo_any l[m].1 l[m].2 e wr)
      obtain ⟨hc1, hc2, hc3, hc4⟩ := cmpI l[m].1 e
      generalize Lib.compareInt l[m].1 e = r at *
      generalize l[m] = t at *
      obtain ⟨t1, t2⟩ := t
      have hm1 : lo ≤ m := by omega
      have hm2 : m < hi := by omega
      clear hm
      dsimp only at *
      by_cases hr : r < 0
      · have HS := Lib.hid (HL.out (hc1.1 hr))
        clear HL HR hc1 hc2
        go_wp2_with fail
        refine HC.out.mono ?_
        rintro en w4 ⟨rfl, hb4⟩
        go_wp2_with fail
        go_roundg (hi - (m + 1))
        case measure => omega
        case rel => exact ⟨m + 1, hi, by omega, by omega, rfl, by go_num, rfl, Lib.hid ⟨HS.out, HI.out.2⟩, hbr.trans (hb4.mono hbr.size)⟩
      · have HS := Lib.hid (HR.out (fun h => hr (hc1.2 h)))
        clear HL HR hc1 hc2
        go_wp2_with fail
        refine HC.out.mono ?_
        rintro en w4 ⟨rfl, hb4⟩
        go_wp2_with fail
        go_roundg (m - lo)
        case measure => omega
        case rel => exact ⟨lo, m, by omega, by omega, rfl, rfl, rfl, Lib.hid ⟨HI.out.1, HS.out⟩, hbr.trans (hb4.mono hbr.size)⟩
    · have z1 : ¬ (lo : Int) < (hi : Int) := by omega
      obtain rfl : lo = hi := by omega
      by_cases hln : lo < l.length
      · have z2 : (lo : Int) < (l.length : Int) := by omega
        obtain ⟨b, o, rfl, _, y0, y1⟩ := (HX.out wr hbr).at_ hln
        have HC := Lib.hid (coefclo_any l[lo].1 l[lo].2 e wr)
        obtain ⟨hc1, hc2, hc3, hc4⟩ := cmpI l[lo].1 e
        have HN := Lib.hid (fun (h : l[lo].1 ≠ e) => (show cf l e = 0 from by
          refine cf_out fun s hs => ?_
          rw [← List.take_append_drop lo l] at hs
          rcases List.mem_append.1 hs with hs | hs
          · have := HI.out.1 s hs; omega
          · rw [List.drop_eq_getElem_cons hln] at hs
            rcases List.mem_cons.1 hs with rfl | hs
            · exact h
            · have h1 := (srt_drop HK.out hln).2 s hs
              have h2 := HI.out.2 l[lo] (mem_drop_self hln)
              omega))
        obtain ⟨r, hr⟩ : ∃ r, r = Lib.compareInt l[lo].1 e := ⟨_, rfl⟩
        rw [← hr] at HC hc1 hc2 hc3 hc4
        clear hr
        have HT := Lib.hid (fun (h : r = 0) => (show ∃ h : lo < l.length, l[lo].1 = e from ⟨hln, hc2.1 h⟩))
        have HF := Lib.hid (fun (h : r ≠ 0) => HN.out (fun q => h (hc2.2 q)))
        generalize l[lo].1 = t1 at *
        generalize l[lo].2 = t2 at *
        clear HN hc1 hc2 HI
        by_cases hr0 : r = 0
        · have z4 : (r == 0) = true := by simp [hr0]
          have HT2 := Lib.hid (HT.out hr0)
          clear HT HF hr0
          go_wp2_with fail
          refine HC.out.mono ?_
          rintro en w4 ⟨rfl, hb4⟩
          go_wp2_with fail
          go_ret2
          exact ⟨hbr.trans (hb4.mono hbr.size), lo, true, rfl, by omega, fun _ => HT2.out, fun h => by cases h⟩
        · have z4 : (r == 0) = false := by simp [hr0]
          have HF2 := Lib.hid (HF.out hr0)
          clear HT HF hr0
          go_wp2_with fail
          refine HC.out.mono ?_
          rintro en w4 ⟨rfl, hb4⟩
          go_wp2_with fail
          go_ret2
          exact ⟨hbr.trans (hb4.mono hbr.size), lo, false, rfl, by omega, fun h => (by cases h), fun _ => HF2.out⟩
      · have z2 : ¬ (lo : Int) < (l.length : Int) := by omega
        have HF2 := Lib.hid (show cf l e = 0 from cf_out fun s hs => by
          have := HI.out.1 s (by rw [List.take_of_length_le (by omega)]; exact hs); omega)
        clear HI
        go_wp2_with fail
        go_ret2
        exact ⟨hbr, lo, false, rfl, by omega, fun h => (by cases h), fun _ => HF2.out⟩
set_option maxHeartbeats 1000000 in
theorem Coef_any (vp : Value) (p : Pol) (e : Int) (w : World) (hp : PolyV w vp p) (okp : okP p) : Calls Tryz.prog 46 #[vp, .int .i64 e] w fun en w' => en = .returned (.int .i64 (cf (p.getD []) e)) ∧ Below w.heap.size w w' := by
  have hl : (p.getD []).length ≤ 1000000000 ∧ Srt (p.getD []) := by
    cases p with
    | none => exact ⟨by simp, List.Pairwise.nil⟩
    | some l => have := okp.2.len okp.1; simp only [Option.getD_some]; exact ⟨by omega, okp.1.srt⟩
  obtain ⟨hl, hsr⟩ := hl
  have HSR := Lib.hid hsr
  obtain ⟨A, c, rfl, hx⟩ := hp
  have HX := Lib.hid (fun W (hb : Below w.heap.size w W) => hx.below hb)
  clear hx okp hsr
  generalize p.isNone = b1 at *
  generalize p.getD [] = l at *
  have hb : Below w.heap.size w (w.alloc (.cells #[.bool b1, .slice A l.length c] 34)) := (Below.refl _ _).alloc (Nat.le_refl _) _
  have qp := Arr.new w 34 [.bool b1, .slice A l.length c]
  change Arr (w.alloc (.cells #[.bool b1, .slice A l.length c] 34)) w.heap.size 34 [.bool b1, .slice A l.length c] at qp
  go_enter Tryz.func46, Tryz.ntmps46
  go_upto_region 1 with fail
  generalize (w.alloc (.cells #[.bool b1, .slice A l.length c] 34)) = w3 at *
  have y1 := qp.cell 1
  have HQ := Lib.hid qp
  have HBS := Lib.hid (bsf_any A c l e w3 (HX.out w3 hb) HSR.out hl)
  have HB := Lib.hid hb
  clear qp hb
  go_wp2_with fail
  refine HBS.out.mono ?_
  rintro en w4 ⟨hb4, i, ok, rfl, hi, h1, h2⟩
  have qp := HQ.out.below hb4 HQ.out.lt
  have y1 := qp.cell 1
  have HB4 := Lib.hid (HB.out.trans (hb4.mono HB.out.size))
  have HX4 := Lib.hid (HX.out w4 HB4.out)
  clear hb4 qp HBS
  cases ok with
  | false =>
    have HE := Lib.hid (h2 rfl)
    clear h1 h2
    go_wp2_with fail
    go_ret
    exact ⟨by rw [HE.out]; rfl, HB4.out⟩
  | true =>
    obtain ⟨hil, hie⟩ := h1 rfl
    have HE := Lib.hid (show cf l e = l[i].2 from by rw [← hie]; exact cf_mem HSR.out (List.getElem_mem hil))
    obtain ⟨b, o, rfl, _, y2, y3⟩ := HX4.out.at_ hil
    have z1 : (i : Int) < (l.length : Int) := by omega
    clear h1 h2 hie y2
    generalize l[i].2 = x at *
    go_wp2_with fail
    go_ret
    exact ⟨by rw [HE.out]; rfl, HB4.out⟩
end Go.Proofs.YtnmidhlghhephaaGreatDoor

namespace Go.Proofs.YtnmidhlghhephaaGreatDoor
open Go.RowKit
set_option linter.unusedVariables false
end Go.Proofs.YtnmidhlghhephaaGreatDoor

namespace Go.Proofs.YtnmidhlghhephaaGreatDoor
open Go.RowKit
set_option linter.unusedVariables false
section
variable {P : Program} {Q : Exit → Act → World → Prop}
/-- with an append (operation n) to memory of its own, taken up by the store (operation n + 1) -/
def PhzI (T : World → World → Prop) (w0 : World) (n : Nat) (Φ : Nat → Value → World → Prop) (R1 : Value → World → Prop) (R2 : World → Prop) (x0 : Nat → Value) (D : Nat → Bool) (x : Nat → Value) (w : World) : Prop := if D (n + 1) = true then R2 w else if D n = true then R1 (x n) w else T w0 w ∧ (∀ i, D i = true → Φ i (x i) w) ∧ ∀ i, D i = false → x i = x0 i
theorem wp_region_phz {id : Nat} {l : List Oper} {a : Act} {w0 : World} (T : World → World → Prop) (Tr : ∀ {a b c}, T a b → T b c → T a c) (T0 : T w0 w0.drew) (n : Nat) (hm : P.follows .mixedOrders = true) (hd : apartD (dstOf l.toArray) = true) (hb : backD l.toArray = true) (hn : inD a.tmps.size (dstOf l.toArray) = true)
    (hlen : l.length = n + 2) (hneed : needB l.toArray n = true) (hnext : (depsAt l.toArray (n + 1)).contains n = true)
    (Φ : Nat → Value → World → Prop) (hΦ : ∀ i v w w', Φ i v w → T w w' → Φ i v w') (R1 : Value → World → Prop) (R2 : World → Prop)
    (hstep : AllOps (fun i o => ∀ (x : Nat → Value) w (b : Act), (∀ t : Nat, b.tmps[t]?.getD undef = look (dstOf l.toArray) x a t) →
      (i < n → T w0 w → (∀ j ∈ deps o, Φ j (x j) w) → (∀ j, i ∈ depsAt l.toArray j → x j = slotV a ((dstOf l.toArray).getD (j - 0) none)) → (gOk l.toArray o b ∧ o.wp P b w (PhxPost T w Φ i b o.dst) NoQ) ∨ (gNo l.toArray o b ∧ Φ i undef w)) ∧
      (i = n → T w0 w → (∀ j ∈ deps o, Φ j (x j) w) → (∀ j, j < n → Φ j (x j) w) → gOk l.toArray o b ∧ o.wp P b w (fun a' w' => ∃ v, a' = b.put o.dst v ∧ R1 v w') NoQ) ∧
      (i = n + 1 → R1 (x n) w → gOk l.toArray o b ∧ o.wp P b w (fun a' w' => ∃ v, a' = b.put o.dst v ∧ R2 w') NoQ)) 0 l)
    (hend : ∀ (x : Nat → Value) w, R2 w → Q .normal (putAll (dstOf l.toArray) 0 x a) w) : (Code.region id l.toArray true).wp P Q a w0 := by
  refine wp_region_facts2X hm hd hb hn (PhzI T w0 n Φ R1 R2 (fun j => slotV a ((dstOf l.toArray).getD (j - 0) none))) ?_ ?_ ?_
  · unfold PhzI
    rw [if_neg (by simp), if_neg (by simp)]
    exact ⟨T0, fun i h => Bool.noConfusion h, fun _ _ => rfl⟩
  · have key : ∀ k o, l[k]? = some o → ∀ D x W (b : Act), PhzI T w0 n Φ R1 R2 (fun j => slotV a ((dstOf l.toArray).getD (j - 0) none)) D x W → D k = false → (∀ j ∈ deps o, D j = true) → (∀ j, D j = true → ∀ q ∈ depsAt l.toArray j, D q = true) → (∀ t : Nat, b.tmps[t]?.getD undef = look (dstOf l.toArray) x a t) → (gOk l.toArray o b ∧ o.wp P b W (StepPost (PhzI T w0 n Φ R1 R2 (fun j => slotV a ((dstOf l.toArray).getD (j - 0) none))) D x k b o.dst) NoQ) ∨ (gNo l.toArray o b ∧ PhzI T w0 n Φ R1 R2 (fun j => slotV a ((dstOf l.toArray).getD (j - 0) none)) (upd D k true) (upd x k undef) W) := by
      intro k o ho D x W b hI hD hdep hcl hbt
      have hk : k ≤ n + 1 := by have := (List.getElem?_eq_some_iff.1 ho).1; omega
      have hs := hstep.get _ _ k o ho x W b hbt
      rw [Nat.zero_add] at hs
      have hn1 : D (n + 1) = true → D n = true := fun h => hcl (n + 1) h n (by simpa using hnext)
      by_cases hk1 : k = n + 1
      · subst hk1
        have hdn : D n = true := hdep n (by
          have h1 : l.toArray[n + 1]? = some o := by simpa using ho
          have h2 : depsAt l.toArray (n + 1) = deps o := by simp [depsAt, h1]
          rw [← h2]; simpa using hnext)
        unfold PhzI at hI
        rw [if_neg (by rw [hD]; simp), if_pos hdn] at hI
        obtain ⟨g1, g2⟩ := hs.2.2 rfl hI
        refine .inl ⟨g1, Oper.wp_mono ?_ g2⟩
        rintro a' w' ⟨v, rfl, hR⟩
        refine ⟨v, rfl, ?_⟩
        unfold PhzI
        rw [if_pos (upd_same _ _ _)]
        exact hR
      · have hkn : k ≤ n := by omega
        have hDn : D n = false := by
          cases h : D n with
          | false => rfl
          | true => have := need_all hneed hcl h _ k hkn (Nat.le_refl _); rw [this] at hD; cases hD
        have hDn1 : D (n + 1) = false := by
          cases h : D (n + 1) with
          | false => rfl
          | true => rw [hn1 h] at hDn; cases hDn
        unfold PhzI at hI
        rw [if_neg (by rw [hDn1]; simp), if_neg (by rw [hDn]; simp)] at hI
        by_cases hkn2 : k = n
        · subst hkn2
          have hDall : ∀ j, j < k → D j = true := by
            intro j hj
            have hcl' : ∀ j, upd D k true j = true → ∀ q ∈ depsAt l.toArray j, upd D k true q = true := by
              intro j hj q hq
              by_cases eq : q = k
              · subst eq; rw [upd_same]
              rw [upd_ne _ _ eq]
              by_cases ej : j = k
              · subst ej
                have : depsAt l.toArray j = deps o := by
                  have h1 : l.toArray[j]? = some o := by simpa using ho
                  simp [depsAt, h1]
                rw [this] at hq
                exact hdep q hq
              · rw [upd_ne _ _ ej] at hj
                exact hcl j hj q hq
            have := need_all hneed hcl' (upd_same _ _ _) _ j (by omega) (Nat.le_refl _)
            rwa [upd_ne _ _ (show j ≠ k by omega)] at this
          obtain ⟨g1, g2⟩ := hs.2.1 rfl hI.1 (fun j hj => hI.2.1 j (hdep j hj)) (fun j hj => hI.2.1 j (hDall j hj))
          refine .inl ⟨g1, Oper.wp_mono ?_ g2⟩
          rintro a' w' ⟨v, rfl, hR⟩
          refine ⟨v, rfl, ?_⟩
          unfold PhzI
          rw [upd_ne _ _ (show k + 1 ≠ k by omega), if_neg (by rw [hDn1]; simp), if_pos (upd_same _ _ _), upd_same]
          exact hR
        · have hs1 := hs.1 (by omega) hI.1 (fun j hj => hI.2.1 j (hdep j hj)) (fun j hj => hI.2.2 j (by
            cases h : D j with
            | false => rfl
            | true =>
              have := hcl j h k hj
              rw [hD] at this; cases this))
          have hnext : ∀ v w', T W w' → Φ k v w' → PhzI T w0 n Φ R1 R2 (fun j => slotV a ((dstOf l.toArray).getD (j - 0) none)) (upd D k true) (upd x k v) w' := by
            intro v w' hb' hv
            unfold PhzI
            rw [upd_ne _ _ (show n + 1 ≠ k from fun e => hk1 e.symm), if_neg (by rw [hDn1]; simp), upd_ne _ _ (show n ≠ k from fun e => hkn2 e.symm), if_neg (by rw [hDn]; simp)]
            refine ⟨Tr hI.1 hb', fun i hi => ?_, fun i hi => ?_⟩
            · by_cases e : i = k
              · subst e; rw [upd_same]; exact hv
              · rw [upd_ne _ _ e] at hi ⊢
                exact hΦ i (x i) W w' (hI.2.1 i hi) hb'
            · by_cases e : i = k
              · subst e; rw [upd_same] at hi; cases hi
              · rw [upd_ne _ _ e] at hi ⊢
                exact hI.2.2 i hi
          rcases hs1 with ⟨g1, g2⟩ | ⟨g1, g2⟩
          · refine .inl ⟨g1, Oper.wp_mono ?_ g2⟩
            rintro a' w' ⟨v, rfl, hb', hv⟩
            exact ⟨v, rfl, hnext v w' hb' hv⟩
          · refine .inr ⟨g1, ?_⟩
            unfold PhzI
            rw [upd_ne _ _ (show n + 1 ≠ k from fun e => hk1 e.symm), if_neg (by rw [hDn1]; simp), upd_ne _ _ (show n ≠ k from fun e => hkn2 e.symm), if_neg (by rw [hDn]; simp)]
            refine ⟨hI.1, fun i hi => ?_, fun i hi => ?_⟩
            · by_cases e : i = k
              · subst e; rw [upd_same]; exact g2
              · rw [upd_ne _ _ e] at hi ⊢
                exact hI.2.1 i hi
            · by_cases e : i = k
              · subst e; rw [upd_same] at hi; cases hi
              · rw [upd_ne _ _ e] at hi ⊢
                exact hI.2.2 i hi
    have aux : ∀ (r : List Oper) (s : Nat), (∀ k, r[k]? = l[s + k]?) → AllOps (fun i o => ∀ D x W (b : Act), PhzI T w0 n Φ R1 R2 (fun j => slotV a ((dstOf l.toArray).getD (j - 0) none)) D x W → D i = false → (∀ j ∈ deps o, D j = true) → (∀ j, D j = true → ∀ q ∈ depsAt l.toArray j, D q = true) → (∀ t : Nat, b.tmps[t]?.getD undef = look (dstOf l.toArray) x a t) → (gOk l.toArray o b ∧ o.wp P b W (StepPost (PhzI T w0 n Φ R1 R2 (fun j => slotV a ((dstOf l.toArray).getD (j - 0) none))) D x i b o.dst) NoQ) ∨ (gNo l.toArray o b ∧ PhzI T w0 n Φ R1 R2 (fun j => slotV a ((dstOf l.toArray).getD (j - 0) none)) (upd D i true) (upd x i undef) W)) s r := by
      intro r
      induction r with
      | nil => intro s _; trivial
      | cons o r ih =>
        intro s hr
        refine ⟨key s o (by have := hr 0; simpa using this.symm), ih (s + 1) (fun k => ?_)⟩
        have := hr (k + 1)
        rw [List.getElem?_cons_succ] at this
        rw [this]; congr 1; omega
    exact aux l 0 (fun k => by rw [Nat.zero_add])
  · intro D x W hI hall
    have hDn := hall (n + 1) (by omega)
    unfold PhzI at hI
    rw [if_pos hDn] at hI
    exact hend x W hI
end
end Go.Proofs.YtnmidhlghhephaaGreatDoor
