/- laurent's Text. -/
import Derived.Test.YtbkgpfalljgdcaaGreatDoorZBld
import Derived.Test.YtbkgpfalljgdcaaGreatDoorZPad
import Derived.Lib.AppendIntMem
import Derived.Lib.ItoaLen
import Derived.Deep.CutRange
namespace Go.Proofs.YtbkgpfalljgdcaaGreatDoor
open Go.RowKit
set_option linter.unusedVariables false

/-- the table of the powers of ten is laid -/
def Tb (w : World) : Prop := Lib.TabIs Tryz.prog w "internal/strconv.uint64pow10" .u64 Lib.pow10Tab
theorem Tb.below {w w' : World} (h : Tb w) (hb : Below w.heap.size w w') : Tb w' := by
  unfold Tb Lib.TabIs World.var? at h ⊢
  cases hg : Tryz.prog.globalNamed "internal/strconv.uint64pow10" with
  | none => rw [hg] at h; simp at h
  | some g =>
  rw [hg] at h
  simp only [Option.bind_some] at h ⊢
  have hlt : g < w.heap.size := by
    rcases Nat.lt_or_ge g w.heap.size with q | q
    · exact q
    · rw [Array.getElem?_eq_none q] at h; cases h
  rw [hb.block g hlt]
  exact h
theorem itoa_any (n : Int) (h0 : -9223372036854775808 ≤ n) (h1 : n ≤ 9223372036854775807) (w : World) (ht : Tb w) :
    Calls Tryz.prog 33 #[.int .i64 n] w fun e w' => e = .returned (.string ⟨(Lib.itoa n).toArray⟩) ∧ Below w.heap.size w w' :=
  Calls.mono (Tryz.strconv_Itoa n h0 h1 w ht) (by
    rintro e w' ⟨rfl, k, os, rfl⟩
    exact ⟨rfl, Lib.below_grow _ _ (Nat.le_refl _) _ _⟩)
def cabs (c : Int) : Int := if c < 0 then -c else c
def sgT (i : Nat) (c : Int) : List UInt8 := if c < 0 then [45] else if 0 < i then [43] else []
def coT (c e : Int) : List UInt8 := if cabs c = 1 ∧ e ≠ 0 then [] else Lib.itoa (cabs c)
def vaT (nm : List UInt8) (e : Int) : List UInt8 := if e = 0 then [] else nm
def poT (e : Int) : List UInt8 := if e = 0 ∨ e = 1 then [] else 94 :: Lib.itoa e
def txtT (nm : List UInt8) (i : Nat) (t : Int × Int) : List UInt8 := sgT i t.2 ++ (coT t.2 t.1 ++ (vaT nm t.1 ++ poT t.1))
def txtU (nm : List UInt8) (l : List (Int × Int)) : Nat → List UInt8
  | 0 => []
  | k + 1 => txtU nm l k ++ txtT nm k (l[k]?.getD (0, 0))
def txt (nm : List UInt8) : Pol → List UInt8
  | none => [98, 105, 103]
  | some l => if l.length = 0 then [48] else txtU nm l l.length
theorem sgT_len (i : Nat) (c : Int) : (sgT i c).length ≤ 1 := by unfold sgT; split; · simp
                                                                 · split <;> simp
theorem coT_len {c e : Int} (h : -1125899906842624 ≤ c ∧ c ≤ 1125899906842624) : (coT c e).length ≤ 21 := by
  unfold coT
  split
  · simp
  · exact Lib.itoa_length_le _ (by unfold cabs; split <;> omega) (by unfold cabs; split <;> omega)
theorem vaT_len {nm : List UInt8} {e : Int} : (vaT nm e).length ≤ nm.length := by unfold vaT; split <;> simp
theorem poT_len {e : Int} (h : -1048576 ≤ e ∧ e ≤ 1048576) : (poT e).length ≤ 22 := by
  unfold poT
  split
  · simp
  · have := Lib.itoa_length_le e (by omega) (by omega)
    rw [List.length_cons]; omega
theorem txtT_len {nm : List UInt8} {i : Nat} {t : Int × Int} (hn : nm.length ≤ 1000) (h1 : -1125899906842624 ≤ t.2 ∧ t.2 ≤ 1125899906842624) (h2 : -1048576 ≤ t.1 ∧ t.1 ≤ 1048576) : (txtT nm i t).length ≤ 2000 := by
  have a := sgT_len i t.2
  have b := coT_len (e := t.1) h1
  have c := vaT_len (nm := nm) (e := t.1)
  have d := poT_len h2
  unfold txtT
  simp only [List.length_append]
  omega
theorem txtU_len {nm : List UInt8} {l : List (Int × Int)} (hn : nm.length ≤ 1000) (hl : Lim l) : ∀ k, k ≤ l.length → (txtU nm l k).length ≤ 2000 * k
  | 0, _ => by simp [txtU]
  | k + 1, h => by
    have h1 := txtU_len hn hl k (by omega)
    have e : l[k]?.getD (0, 0) = l[k] := by rw [List.getElem?_eq_getElem (by omega)]; rfl
    have h2 := txtT_len (i := k) hn (hl.co _ (List.getElem_mem (show k < l.length by omega))) (hl.ex _ (List.getElem_mem (show k < l.length by omega)))
    rw [txtU, List.length_append, e]; omega
theorem IsB.below {B b : Nat} {bs : List Value} {w w' : World} (h : IsB B b bs w) (hb : Below w.heap.size w w') : IsB B b bs w' := by
  have key : ∀ p, Lib.BuilderAt 71 5 B b p bs w → Lib.BuilderAt 71 5 B b p bs w' := by
    rintro p ⟨h1, v, h2, h3, h4⟩
    refine ⟨h1, v, (hb.block b (bld_lt h2)).trans h2, ⟨h3.1, ?_⟩, h4⟩
    rcases h3.2 with h0 | ⟨k, cap, cur, rfl, hg, hh, r⟩
    · exact .inl h0
    · exact .inr ⟨k, cap, cur, rfl, hg, (hb.block k (bld_lt hh)).trans hh, r⟩
  rcases h with h | h
  · exact .inl (key _ h)
  · exact .inr (key _ h)
/-- the state of a round of Text -/
structure TxSt (w : World) (g : Nat) (t : Int × Int) (bs : List UInt8) (wx : World) : Prop where
  ib : IsB (w.heap.size + 1) (w.heap.size + 1) (Lib.byteCells bs) wx
  bel : Below w.heap.size w wx
  sz : g + 1 ≤ wx.heap.size
  tt : Arr wx g 67 [.int .i64 t.1, .int .i64 t.2]
  gb : w.heap.size + 2 ≤ g
theorem TxSt.byte {w wx : World} {g : Nat} {t : Int × Int} {bs : List UInt8} (h : TxSt w g t bs wx) (hl : bs.length ≤ 10000000000) (x : UInt8) (n : Int) (hn : n = (x.toNat : Int)) :
    Calls Tryz.prog 31 #[.pointer (some ⟨w.heap.size + 1, 0, none⟩), .int .u8 n] wx fun e w' => e = .returned .nilIface ∧ TxSt w g t (bs ++ [x]) w' := by
  subst hn
  have hs := h.sz
  have hg := h.gb
  refine Calls.mono (bld_byte _ _ _ _ wx h.ib (by rw [Lib.byteCells_length]; omega) (by omega)) ?_
  rintro e w' ⟨rfl, h1, h2, h3⟩
  refine ⟨rfl, by rw [Lib.byteCells_append]; exact h1, h.bel.trans (h2.mono (by omega)), by have := h2.size; omega, h3 _ _ _ h.tt (by decide) (by omega), hg⟩
theorem TxSt.str {w wx : World} {g : Nat} {t : Int × Int} {bs : List UInt8} (h : TxSt w g t bs wx) (hl : bs.length ≤ 10000000000) (s : List UInt8) (hsl : s.length ≤ 1000) :
    Calls Tryz.prog 32 #[.pointer (some ⟨w.heap.size + 1, 0, none⟩), .string ⟨s.toArray⟩] wx fun e w' => (∃ q, e = .returned (.tuple #[.int .i64 q, .nilIface])) ∧ TxSt w g t (bs ++ s) w' := by
  have hs := h.sz
  have hg := h.gb
  have e1 : (ByteArray.mk s.toArray).size = s.length := rfl
  refine Calls.mono (bld_string _ _ _ ⟨s.toArray⟩ wx h.ib (by rw [Lib.byteCells_length, e1]; omega) (by omega)) ?_
  rintro e w' ⟨rfl, h1, h2, h3⟩
  refine ⟨⟨_, rfl⟩, by rw [Lib.byteCells_append]; exact h1, h.bel.trans (h2.mono (by omega)), by have := h2.size; omega, h3 _ _ _ h.tt (by decide) (by omega), hg⟩
theorem TxSt.itoa {w wx : World} {g : Nat} {t : Int × Int} {bs : List UInt8} (h : TxSt w g t bs wx) (ht : Tb w) (n : Int) (h0 : -9223372036854775808 ≤ n) (h1 : n ≤ 9223372036854775807) :
    Calls Tryz.prog 33 #[.int .i64 n] wx fun e w' => e = .returned (.string ⟨(Lib.itoa n).toArray⟩) ∧ TxSt w g t bs w' := by
  have hs := h.sz
  have hg := h.gb
  refine Calls.mono (itoa_any n h0 h1 wx (ht.below h.bel)) ?_
  rintro e w' ⟨rfl, h2⟩
  exact ⟨rfl, h.ib.below h2, h.bel.trans (h2.mono (by have := h.bel.size; omega)), by have := h2.size; omega, h.tt.below h2 h.tt.lt, hg⟩
set_option maxHeartbeats 2000000 in
set_option maxRecDepth 100000 in
theorem Text_any (v : Value) (p : Pol) (nm : List UInt8) (w : World) (hv : PolyV w v p) (hok : okP p) (hn : nm.length ≤ 1000) (ht : Tb w) :
    Calls Tryz.prog 17 #[v, .string ⟨nm.toArray⟩] w fun e w' => e = .returned (.string ⟨(txt nm p).toArray⟩) ∧ Below w.heap.size w w' := by
  obtain ⟨A, c, rfl, hx⟩ := hv
  have hW : ∀ bb W, W = (w.alloc (.cells #[.bool bb, .slice A (p.getD []).length c] 40)) → Arr W w.heap.size 40 [.bool bb, .slice A (p.getD []).length c] ∧ Below w.heap.size w W ∧ W.heap.size = w.heap.size + 1 := by
    intro bb W hW
    subst hW
    exact ⟨Arr.new _ _ [_, _], ((Below.refl _ _).alloc (Nat.le_refl _) _), by simp⟩
  cases p with
  | none =>
    change Calls Tryz.prog 17 #[.agg #[.bool true, .slice A 0 c], .string ⟨nm.toArray⟩] w _
    have hW' := hW true
    clear hW hx
    go_enter Tryz.func17, Tryz.ntmps17
    go_upto_region 1 with fail
    replace hW' := hW' _ rfl
    change Arr (w.alloc (.cells #[.bool true, .slice A 0 c] 40)) w.heap.size 40 [.bool true, .slice A 0 c] ∧ Below w.heap.size w (w.alloc (.cells #[.bool true, .slice A 0 c] 40)) ∧ (w.alloc (.cells #[.bool true, .slice A 0 c] 40)).heap.size = w.heap.size + 1 at hW'
    generalize (w.alloc (.cells #[.bool true, .slice A 0 c] 40)) = w3 at *
    obtain ⟨qb, hb3, hs3⟩ := hW'
    have y0 := qb.cell 0
    go_wp2_with fail
    go_ret
    exact ⟨rfl, hb3⟩
  | some l =>
    change Calls Tryz.prog 17 #[.agg #[.bool false, .slice A l.length c], .string ⟨nm.toArray⟩] w _
    change Tms w (.slice A l.length c) l at hx
    have hW' := hW false
    clear hW
    obtain ⟨T, hT⟩ : ∃ T, T = txt nm (some l) := ⟨_, rfl⟩
    rw [← hT]
    have HT := Lib.hid hT
    clear hT
    obtain ⟨hcan, hlim⟩ := hok
    go_enter Tryz.func17, Tryz.ntmps17
    go_upto_region 1 with fail
    replace hW' := hW' _ rfl
    change Arr (w.alloc (.cells #[.bool false, .slice A l.length c] 40)) w.heap.size 40 [.bool false, .slice A l.length c] ∧ Below w.heap.size w (w.alloc (.cells #[.bool false, .slice A l.length c] 40)) ∧ (w.alloc (.cells #[.bool false, .slice A l.length c] 40)).heap.size = w.heap.size + 1 at hW'
    generalize (w.alloc (.cells #[.bool false, .slice A l.length c] 40)) = w3 at *
    obtain ⟨qb, hb3, hs3⟩ := hW'
    have y0 := qb.cell 0
    have y1 := qb.cell 1
    have hlen := hlim.len hcan
    by_cases h0 : l.length = 0
    · have z1 : ((l.length : Int) == 0) = true := by rw [beq_iff_eq]; omega
      have HT2 := Lib.hid (show T = [48] from by rw [HT.out]; exact if_pos h0)
      go_wp2_with fail
      go_ret
      exact ⟨by rw [HT2.out]; rfl, hb3⟩
    · have z1 : ((l.length : Int) == 0) = false := by rw [beq_eq_false_iff_ne]; omega
      have HT2 := Lib.hid (show T = txtU nm l l.length from by rw [HT.out]; exact if_neg h0)
      have HX := Lib.hid hx
      have HLI := Lib.hid hlim
      clear HT hcan hx hlim
      go_upto_region 6 with fail
      have hB : Arr (w3.alloc (.cells #[.pointer none, .slice none 0 0] 71)) w.heap.size 40 [.bool false, .slice A l.length c] ∧ Below w.heap.size w (w3.alloc (.cells #[.pointer none, .slice none 0 0] 71)) ∧ IsB (w.heap.size + 1) (w.heap.size + 1) [] (w3.alloc (.cells #[.pointer none, .slice none 0 0] 71)) ∧ (w3.alloc (.cells #[.pointer none, .slice none 0 0] 71)).heap.size = w.heap.size + 2 := by
        refine ⟨qb.alloc _, hb3.alloc (by omega) _, .inl ⟨Nat.le_refl _, _, ?_, ⟨rfl, .inl ⟨rfl, rfl⟩⟩, by simp [Value.ownBlock]⟩, by simp; omega⟩
        have := Arr.new w3 71 [.pointer none, .slice none 0 0]
        rw [hs3] at this
        exact this
      generalize (w3.alloc (.cells #[.pointer none, .slice none 0 0] 71)) = w4 at *
      obtain ⟨qb4, hb4, hib, hs4⟩ := hB
      have y2 := qb4.cell 1
      clear y0 y1 qb hb3 qb4
      go_wp2_with fail
      go_loopg [6, 7, 8, 20] l.length (fun gk s6 s7 s8 s20 wr => ∃ k : Nat, k ≤ l.length ∧ gk = l.length - k ∧ s20 = .int .i64 (k : Int) ∧ IsB (w.heap.size + 1) (w.heap.size + 1) (Lib.byteCells (txtU nm l k)) wr ∧ Below w.heap.size w wr ∧ w.heap.size + 2 ≤ wr.heap.size)
      case atStart => exact ⟨0, Nat.zero_le _, rfl, rfl, hib, hb4, by omega⟩
      case round =>
        clear hib hb4 hs4 y2
        obtain ⟨k, hk, rfl, rfl, hib, hbr, hsr⟩ := hrel
        by_cases hlt : k < l.length
        · have z2 : (k : Int) < (l.length : Int) := by omega
          obtain ⟨b, o, rfl, _, y0, y1⟩ := (HX.out.below hbr).at_ hlt
          obtain ⟨t, ht2⟩ : ∃ t, t = l[k] := ⟨_, rfl⟩
          rw [← ht2] at y0 y1
          go_upto_region 9 with fail
          clear HX
          rw [← ht2]
          have hst : TxSt w wr.heap.size t (txtU nm l k) (wr.alloc (.cells #[.int .i64 t.1, .int .i64 t.2] 67)) := ⟨hib.below ((Below.refl _ _).alloc (Nat.le_refl _) _), hbr.alloc (by omega) _, by simp, Arr.new _ _ [_, _], hsr⟩
          generalize (wr.alloc (.cells #[.int .i64 t.1, .int .i64 t.2] 67)) = w5 at *
          have hco := HLI.out.co t (by rw [ht2]; exact List.getElem_mem hlt)
          have hex := HLI.out.ex t (by rw [ht2]; exact List.getElem_mem hlt)
          have HTX := Lib.hid (show txtU nm l (k + 1) = txtU nm l k ++ txtT nm k t from by rw [txtU, List.getElem?_eq_getElem hlt, ht2]; rfl)
          have htl := txtU_len hn HLI.out k hk
          clear hib hbr y0 y1 ht2
          generalize wr.heap.size = g at *
          obtain ⟨te, tc⟩ := t
          generalize txtU nm l k = bs at *
          have x1 : w5.cell? ⟨g, 1, none⟩ = some (.int .i64 tc) := hst.tt.cell 1
          go_upto_if 28 with fail
          go_cut [8, 20] from 20 to 63 (fun s8 s20 wx => s8 = .int .i64 (cabs tc) ∧ s20 = .int .i64 (k : Int) ∧ TxSt w g (te, tc) (bs ++ sgT k tc) wx)
          case first =>
            have x1 : w5.cell? ⟨g, 1, none⟩ = some (.int .i64 tc) := hst.tt.cell 1
            by_cases c1 : tc < 0
            · have HB := Lib.hid (hst.byte (by omega) 45 45 rfl)
              have E1 := Lib.hid (show sgT k tc = [45] from if_pos c1)
              have E2 := Lib.hid (show cabs tc = -tc from if_pos c1)
              clear hst
              go_wp2_with fail
              refine HB.out.mono ?_
              rintro e w6 ⟨rfl, h6⟩
              go_wp2_with fail
              go_meet
              case rel => exact ⟨by rw [E2.out], rfl, by rw [E1.out]; exact h6⟩
            · have E2 := Lib.hid (show cabs tc = tc from if_neg c1)
              by_cases c2 : (k : Int) > 0
              · have HB := Lib.hid (hst.byte (by omega) 43 43 rfl)
                have E1 := Lib.hid (show sgT k tc = [43] from by unfold sgT; rw [if_neg c1, if_pos (by omega)])
                clear hst
                go_wp2_with fail
                refine HB.out.mono ?_
                rintro e w6 ⟨rfl, h6⟩
                go_wp2_with fail
                go_meet
                case rel => exact ⟨by rw [E2.out], rfl, by rw [E1.out]; exact h6⟩
              · have E1 := Lib.hid (show sgT k tc = [] from by unfold sgT; rw [if_neg c1, if_neg (by omega)])
                go_wp2_with fail
                go_meet
                case rel => exact ⟨by rw [E2.out], rfl, by rw [E1.out, List.append_nil]; exact hst⟩
          case rest =>
            obtain ⟨rfl, rfl, hst1⟩ := hcut
            have hl1 := sgT_len k tc
            have hl2 : (bs ++ sgT k tc).length = bs.length + (sgT k tc).length := List.length_append
            have HTX1 := Lib.hid (show txtU nm l (k + 1) = (bs ++ sgT k tc) ++ (coT tc te ++ (vaT nm te ++ poT te)) from by rw [HTX.out]; unfold txtT; simp only [List.append_assoc])
            clear HTX
            generalize bs ++ sgT k tc = b1 at *
            have x0 : wc.cell? ⟨g, 0, none⟩ = some (.int .i64 te) := hst1.tt.cell 0
            clear x1 hst
            have hcc : cabs tc ≤ 1125899906842624 ∧ 0 ≤ cabs tc := by unfold cabs; split <;> omega
            obtain ⟨ca, hca⟩ : ∃ ca, ca = cabs tc := ⟨_, rfl⟩
            have HCA := Lib.hid hca
            rw [← hca] at hcc ⊢
            clear hca
            go_upto_region 15 with fail
            obtain ⟨D, hD⟩ : ∃ D, D = decide (ca ≠ 1 ∨ te = 0) := ⟨_, rfl⟩
            have HD := Lib.hid hD
            clear hD
            go_cut [8, 20, 41] from 20 to 63 (fun s8 s20 s41 wx => s8 = .int .i64 ca ∧ s20 = .int .i64 (k : Int) ∧ s41 = .bool D ∧ wx = wc)
            case first =>
              by_cases c1 : ca = 1
              · have z3 : (ca != 1) = false := by simp [c1]
                by_cases c2 : te = 0
                · have z4 : (te == 0) = true := by simp [c2]
                  have HE := Lib.hid (HD.out.trans (decide_eq_true (.inr c2)))
                  clear c1 c2
                  go_wp2_with fail
                  go_meet
                  case rel => exact ⟨rfl, rfl, by rw [HE.out], rfl⟩
                · have z4 : (te == 0) = false := by simp [c2]
                  have HE := Lib.hid (HD.out.trans (decide_eq_false (fun h => h.elim (fun h => h c1) c2)))
                  clear c1 c2
                  go_wp2_with fail
                  go_meet
                  case rel => exact ⟨rfl, rfl, by rw [HE.out], rfl⟩
              · have z3 : (ca != 1) = true := by simp [c1]
                have HE := Lib.hid (HD.out.trans (decide_eq_true (.inl c1)))
                clear c1
                go_wp2_with fail
                go_meet
                case rel => exact ⟨rfl, rfl, by rw [HE.out], rfl⟩
            case rest =>
              obtain ⟨rfl, rfl, rfl, rfl⟩ := hcut
              have HC2 := Lib.hid (show coT tc te = if D = true then Lib.itoa ca else [] from by
                rw [HD.out, HCA.out]; unfold coT
                by_cases c1 : cabs tc = 1 ∧ te ≠ 0
                · rw [if_pos c1, if_neg]; intro h; have := of_decide_eq_true h; omega
                · rw [if_neg c1, if_pos]; exact decide_eq_true (by omega))
              go_upto_if 41 with fail
              go_cut [8, 20] from 20 to 63 (fun s8 s20 wx => s20 = .int .i64 (k : Int) ∧ TxSt w g (te, tc) (b1 ++ coT tc te) wx)
              case first =>
                cases D with
                | false =>
                  go_wp2_with fail
                  go_meet
                  case rel => exact ⟨rfl, by rw [HC2.out, if_neg (by simp), List.append_nil]; exact hst1⟩
                | true =>
                  have HI := Lib.hid (hst1.itoa ht ca (by omega) (by omega))
                  have hil := Lib.itoa_length_le ca (by omega) (by omega)
                  have HC3 := Lib.hid (HC2.out.trans (if_pos rfl))
                  clear HC2
                  go_wp2_with fail
                  refine HI.out.mono ?_
                  rintro e w6 ⟨rfl, h6⟩
                  have HS := Lib.hid (h6.str (by omega) (Lib.itoa ca) (by omega))
                  go_wp2_with fail
                  refine HS.out.mono ?_
                  rintro e w7 ⟨⟨q, rfl⟩, h7⟩
                  go_wp2_with fail
                  go_meet
                  case rel => exact ⟨rfl, by rw [HC3.out]; exact h7⟩
              case rest =>
                obtain ⟨rfl, hst2⟩ := hcut
                have hl3 := coT_len (c := tc) (e := te) hco
                have hl4 : (b1 ++ coT tc te).length = b1.length + (coT tc te).length := List.length_append
                have HTX2 := Lib.hid (show txtU nm l (k + 1) = (b1 ++ coT tc te) ++ (vaT nm te ++ poT te) from by rw [HTX1.out]; simp only [List.append_assoc])
                clear HTX1
                generalize b1 ++ coT tc te = b2 at *
                clear x0
                have x0 : wc.cell? ⟨g, 0, none⟩ = some (.int .i64 te) := hst2.tt.cell 0
                obtain ⟨D1, hD1⟩ : ∃ D, D = (te != 0) := ⟨_, rfl⟩
                obtain ⟨D2, hD2⟩ : ∃ D, D = (te != 1) := ⟨_, rfl⟩
                have HV := Lib.hid (show vaT nm te = if D1 = true then nm else [] from by
                  rw [hD1]; unfold vaT
                  by_cases c : te = 0
                  · rw [if_pos c, if_neg]; simp [c]
                  · rw [if_neg c, if_pos]; simp [c])
                have HP := Lib.hid (show poT te = if (D1 && D2) = true then 94 :: Lib.itoa te else [] from by
                  rw [hD1, hD2]; unfold poT
                  by_cases c : te = 0 ∨ te = 1
                  · rw [if_pos c, if_neg]; simp only [Bool.and_eq_true, bne_iff_ne, ne_eq]; omega
                  · rw [if_neg c, if_pos]; simp only [Bool.and_eq_true, bne_iff_ne, ne_eq]; omega)
                have d1 := hD1.symm
                have d2 := hD2.symm
                clear hD1 hD2
                go_upto_if 47 with fail
                go_cut [8, 20] from 20 to 63 (fun s8 s20 wx => s20 = .int .i64 (k : Int) ∧ TxSt w g (te, tc) (b2 ++ vaT nm te) wx)
                case first =>
                  cases D1 with
                  | false =>
                    go_wp2_with fail
                    go_meet
                    case rel => exact ⟨rfl, by rw [HV.out, if_neg (by simp), List.append_nil]; exact hst2⟩
                  | true =>
                    have HS := Lib.hid (hst2.str (by omega) nm hn)
                    have HV3 := Lib.hid (HV.out.trans (if_pos rfl))
                    clear HV
                    go_wp2_with fail
                    refine HS.out.mono ?_
                    rintro e w7 ⟨⟨q, rfl⟩, h7⟩
                    go_wp2_with fail
                    go_meet
                    case rel => exact ⟨rfl, by rw [HV3.out]; exact h7⟩
                case rest =>
                  obtain ⟨rfl, hst3⟩ := hcut
                  have hl5 := vaT_len (nm := nm) (e := te)
                  have hl6 : (b2 ++ vaT nm te).length = b2.length + (vaT nm te).length := List.length_append
                  have HTX3 := Lib.hid (show txtU nm l (k + 1) = (b2 ++ vaT nm te) ++ poT te from by rw [HTX2.out]; simp only [List.append_assoc])
                  clear HTX2 HV
                  generalize b2 ++ vaT nm te = b3 at *
                  clear x0
                  have x0 : wc.cell? ⟨g, 0, none⟩ = some (.int .i64 te) := hst3.tt.cell 0
                  cases D1 with
                  | false =>
                    have HE := Lib.hid (show txtU nm l (k + 1) = b3 from by rw [HTX3.out, HP.out, if_neg (by simp), List.append_nil])
                    clear HTX3 HP
                    go_wp2_with fail
                    go_roundg (l.length - (k + 1))
                    case measure => omega
                    case rel => exact ⟨k + 1, by omega, rfl, by go_num, by rw [HE.out]; exact hst3.ib, hst3.bel, by have := hst3.sz; omega⟩
                  | true =>
                    cases D2 with
                    | false =>
                      have HE := Lib.hid (show txtU nm l (k + 1) = b3 from by rw [HTX3.out, HP.out, if_neg (by simp), List.append_nil])
                      clear HTX3 HP
                      go_wp2_with fail
                      go_roundg (l.length - (k + 1))
                      case measure => omega
                      case rel => exact ⟨k + 1, by omega, rfl, by go_num, by rw [HE.out]; exact hst3.ib, hst3.bel, by have := hst3.sz; omega⟩
                    | true =>
                      have HB := Lib.hid (hst3.byte (by omega) 94 94 rfl)
                      have HE := Lib.hid (show txtU nm l (k + 1) = (b3 ++ [94]) ++ Lib.itoa te from by rw [HTX3.out, HP.out, if_pos (by rfl), List.append_assoc]; rfl)
                      have hil := Lib.itoa_length_le te (by omega) (by omega)
                      have hl7 : (b3 ++ [94]).length = b3.length + 1 := List.length_append
                      clear HTX3 HP hst3
                      go_wp2_with fail
                      refine HB.out.mono ?_
                      rintro e w6 ⟨rfl, h6⟩
                      have x0 : w6.cell? ⟨g, 0, none⟩ = some (.int .i64 te) := h6.tt.cell 0
                      have HI := Lib.hid (h6.itoa ht te (by omega) (by omega))
                      clear h6
                      go_wp2_with fail
                      refine HI.out.mono ?_
                      rintro e w7 ⟨rfl, h7⟩
                      have HS := Lib.hid (h7.str (by omega) (Lib.itoa te) (by omega))
                      clear h7 x0
                      go_wp2_with fail
                      refine HS.out.mono ?_
                      rintro e w8 ⟨⟨q, rfl⟩, h8⟩
                      go_wp2_with fail
                      go_roundg (l.length - (k + 1))
                      case measure => omega
                      case rel => exact ⟨k + 1, by omega, rfl, by go_num, by rw [HE.out]; exact h8.ib, h8.bel, by have := h8.sz; omega⟩
        · have z2 : ¬ ((k : Int) < (l.length : Int)) := by omega
          obtain rfl : k = l.length := by omega
          have HS := Lib.hid (Tryz.Builder_String_any (w.heap.size + 1) (w.heap.size + 1) (txtU nm l l.length) wr hib (by omega))
          clear hib
          go_wp2_with fail
          refine HS.out.mono ?_
          rintro e w6 ⟨rfl, h6⟩
          go_wp2_with fail
          go_ret
          exact ⟨by rw [HT2.out]; rfl, hbr.trans (h6.mono (by omega))⟩
end Go.Proofs.YtbkgpfalljgdcaaGreatDoor
